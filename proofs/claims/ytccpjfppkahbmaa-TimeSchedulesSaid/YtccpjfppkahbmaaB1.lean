/- A range over an iterator that keeps state of its own in cells: M is the set of blocks that are the iterator's. -/
import Derived.RangeFuncBox
import Derived.RangeFuncNested
import Derived.RangeFuncBound
import Derived.RangeFuncCalls
import Derived.RangeFuncLeaves
import Derived.Shelf.Abstract
import Derived.Shelf.RegionOpen
import Derived.WalkKit
import Derived.OwnWalkIn
import Derived.TacticsInMore
import Derived.LoopNIn
import Derived.LoopIn
import Derived.Maps.AppendAt
import Derived.Test.YtccpjfppkahbmaaKD
namespace Go.Proofs.Ytccpjfppkahbmaa
open Go.RowKit Go.Shelf PK

variable {α : Type} {F : Fence} {n : Nat} {P : Program}
/-- The invariant abides a step of the iterator's: one block of its own is turned, new ones come. -/
def AbidesMine (J : List α → (Nat → Prop) → World → Prop) : Prop :=
  ∀ s M A B row, J s M A → A.grownBy B row → (∀ r, row = some r → M r) → ∀ M' : Nat → Prop, (∀ k, M' k → M k ∨ A.heap.size ≤ k) → J s M' B
/-- The iterator's word. -/
def SeqMine (F : Fence) (n : Nat) (P : Program) (g : Nat) (lb : Array Value) (encs : α → Array Value) (In : α → World → Prop) (S : List α → Prop) (N n₀ : Nat) (M0 : Nat → Prop) (w : World) : Prop :=
  ∀ (l : Nat) (J : List α → (Nat → Prop) → World → Prop) (W : World), Below w.heap.size w W → AbidesMine J →
    (∀ pre M x W1, J pre M W1 → pre.length < N → In x W1 → (∀ k, M k → k < W1.heap.size) → YieldAt F (n - 1) P l (encs x) W1 fun e W' =>
      e = .returned (.bool true) ∧ J (pre ++ [x]) M W' ∧ (∀ k, M k → W'.heap[k]? = W1.heap[k]?) ∧ Below n₀ W1 W') →
    J [] M0 W → CallsIn F n P g (#[.func (.yield l) #[] #[]] ++ lb) W fun e W' => (∃ v, e = .returned v) ∧ ∃ xs M, S xs ∧ J xs M W'
/-- How a round may end: it goes on, and has turned neither what is the iterator's nor what lay below n₀. -/
def minePost (B n₀ : Nat) (M : Nat → Prop) (I' : World → Prop) (W : World) : Exit → Act → World → Prop
  | .normal, _, W' => KeepsFrom B W W' ∧ (∀ k, M k → W'.heap[k]? = W.heap[k]?) ∧ Below n₀ W W' ∧ I' W'
  | _, _, _ => False
/-- What the caller's invariant must abide. -/
def AbidesBoth (B : Nat) (M0 : Nat → Prop) (I : List α → (Nat → Prop) → World → Prop) : Prop :=
  ∀ s M A A' row, I s M A → A.grownBy A' row → (∀ r, row = some r → (B ≤ r ∧ ∃ o : Obj, A.heap[r]? = some o ∧ o.isCells = false) ∨ (M r ∧ (M0 r ∨ B ≤ r))) → ∀ M' : Nat → Prop, (∀ k, M' k → M k ∨ A.heap.size ≤ k) → I s M' A'
theorem wpIn_rangeFunc_mine {g : Operand} {ps : Array Tmp} {assign body : Code} {Q : Exit → Act → World → Prop} {a : Act} {w : World}
    (hro : F.round = none) (h1 : 1 ≤ n) {gf : Nat} {lb : Array Value} (hg : a.eval g = .func (.func gf) #[] lb) (hFg : F.fn gf) (eg : ∀ args w, (callFunc gf args).run P w = .ok (.enter gf args) w)
    {encs : α → Array Value} {In : α → World → Prop} {S : List α → Prop} {N n₀ : Nat} {M0 : Nat → Prop} (hseq : SeqMine F (n - 1) P gf lb encs In S N n₀ M0 w)
    (hn₀ : n₀ ≤ w.heap.size) (hM0 : ∀ k, M0 k → k < w.heap.size) (hps : ∀ x, (encs x).size = ps.size)
    (hIn : ∀ x A r (o o' : Obj), In x A → A.heap[r]? = some o → o.isCells = false → In x (A.putObj r o'))
    (I : List α → (Nat → Prop) → World → Prop) (hI : AbidesBoth w.heap.size M0 I) (h0 : I [] M0 w) (a₁ : α → Act)
    (hassign : ∀ (l : Nat) (x : α) (W : World) (K : Act → World → Prop), K (a₁ x) W →
      assign.wpIn (F.inRound l) (n - 1 - 1) P (Exit.then K (fun _ _ _ => False)) { tmps := (ps.zip (encs x)).foldl (fun t (p, v) => t.setIfInBounds p v) a.tmps, defers := [] } W)
    (hbody : ∀ (l : Nat) (pre : List α) (M : Nat → Prop) (x : α) (W : World), I pre M W → pre.length < N → In x W → (∀ k, M k → (M0 k ∨ w.heap.size ≤ k) ∧ k < W.heap.size) → body.wpIn (F.inRound l) (n - 1 - 1) P (minePost w.heap.size n₀ M (I (pre ++ [x]) M) W) (a₁ x) W)
    (hdone : ∀ (D : Nat) (xs : List α) (M : Nat → Prop) (W : World), w.heap.size ≤ D → S xs → I xs M W → W.heap[D]? = some (.deferred (some [])) → Q .normal { a with defers := { target := .collected D, args := #[] } :: a.defers } W) :
    (Code.rangeFunc g ps assign body).wpIn F n P Q a w := by
  refine wpIn_rangeFunc fun fn hfn => ?_
  rw [hro]
  have hro' : ∃ rec : LoopState → Loop, rec = fun st => { state := st, pending := none, fn, tmps := a.tmps, params := ps, assign, body, defers := w.heap.size } := ⟨_, rfl⟩
  obtain ⟨rec, hrec⟩ := hro'
  have hW : ∃ W1, (w.alloc (.deferred (some []))).alloc (.loop (rec .ready)) = W1 := ⟨_, rfl⟩
  obtain ⟨W1, hW1⟩ := hW
  have hs1 : W1.heap.size = w.heap.size + 2 := by rw [← hW1]; simp
  have hL1 : W1.heap[w.heap.size + 1]? = some (.loop (rec .ready)) := by
    have := World.alloc_heap_new (w.alloc (.deferred (some []))) (.loop (rec .ready))
    rwa [World.size_alloc, hW1] at this
  have hK1 : W1.heap[w.heap.size]? = some (.deferred (some [])) := by
    rw [← hW1]; exact (Below.heap_alloc _ _ _ (by simp)).trans (World.alloc_heap_new w _)
  have hb1 : Below w.heap.size w W1 := by
    rw [← hW1]; exact ((Below.refl _ w).alloc (Nat.le_refl _) _).alloc (by simp) _
  have hI1 : I [] M0 W1 := by
    have step : ∀ (A : World) (o : Obj), I [] M0 A → I [] M0 (A.alloc o) := fun A o h =>
      hI [] M0 A _ none h (World.grownBy_alloc A o none) (fun r e => by cases e) M0 (fun k h => .inl h)
    rw [← hW1]; exact step _ _ (step _ _ h0)
  refine ⟨w.heap.size + 1, [{ target := .collected w.heap.size, args := #[] }], W1, { target := .fn (.func gf) lb, args := #[.func (.yield (w.heap.size + 1)) #[] #[]] }, W1, gf,
    #[.func (.yield (w.heap.size + 1)) #[] #[]] ++ lb, W1, ?_, ?_, ?_, ?_, fun _ => h1, ?_⟩
  · rw [← hW1, hrec]; exact run_enterLoop_outer _ _ _ _ _
  · simp only [resolve, hg]
    simp [go_sem]
  · intro f' hf'
    simp [Target.leads] at hf'
    subst hf'; exact hFg
  · simp [invoke, go_sem, eg]
  let J : List α → (Nat → Prop) → World → Prop := fun pre M W =>
    I pre M W ∧ W.heap[w.heap.size + 1]? = some (.loop (rec .ready)) ∧ W.heap[w.heap.size]? = some (.deferred (some [])) ∧ ∀ k, M k → M0 k ∨ w.heap.size + 2 ≤ k
  have hJ : AbidesMine J := by
    rintro s M A B row ⟨hi, hl, hk, hm⟩ hgr hr M' hM'
    have hlA : w.heap.size + 1 < A.heap.size := (Array.getElem?_eq_some_iff.1 hl).1
    have hno : ∀ k, k < w.heap.size + 2 → w.heap.size ≤ k → some k ≠ row := fun k h2 h3 e => by
      rcases hm k (hr k e.symm) with h | h
      · have := hM0 k h; omega
      · omega
    refine ⟨hI s M A B row hi hgr (fun r e => .inr ⟨hr r e, ?_⟩) M' hM', (hgr.block _ (by omega) (hno _ (by omega) (by omega))).trans hl, (hgr.block _ (by omega) (hno _ (by omega) (by omega))).trans hk, fun k h => ?_⟩
    · rcases hm r (hr r e) with h | h
      · exact .inl h
      · exact .inr (by omega)
    · rcases hM' k h with h | h
      · exact hm k h
      · exact .inr (by omega)
  refine (hseq (w.heap.size + 1) J W1 hb1 hJ ?_ ⟨hI1, hL1, hK1, fun k h => .inl h⟩).mono ?_
  · rintro pre M x W ⟨hi, hl, hk, hm⟩ hlen hin hlt
    have hlW : w.heap.size + 1 < W.heap.size := (Array.getElem?_eq_some_iff.1 hl).1
    have hnm : ∀ k, M k → k ≠ w.heap.size + 1 := fun k h e => by
      rcases hm k h with h' | h'
      · have := hM0 k h'; omega
      · omega
    have hput : ∀ (A : World) (o o' : Obj) (s : List α), I s M A → A.heap[w.heap.size + 1]? = some o → o.isCells = false → I s M (A.putObj (w.heap.size + 1) o') := fun A o o' s h1 h2 h3 =>
      hI s M A _ (some (w.heap.size + 1)) h1 (grownBy_putObj' A _ o') (fun r e => by cases e; exact .inl ⟨by omega, o, h2, h3⟩) M (fun k h => .inl h)
    have hy := run_yield (P := P) (args := encs x) hl (by rw [hrec]; exact hps x)
    rw [hrec] at hy
    refine ⟨fn, _, assign, body, hy, roundIn_of_wpIn hfn (hassign _ x W _ ⟨_, run_beginRound hl (by rw [hrec]), ?_⟩)⟩
    have hl2 : (W.putObj (w.heap.size + 1) (.loop { rec .ready with state := .busy })).heap[w.heap.size + 1]? = some (.loop { rec .ready with state := .busy }) := World.putObj_heap_same hlW
    have hk2 : (W.putObj (w.heap.size + 1) (.loop { rec .ready with state := .busy })).heap[w.heap.size]? = some (.deferred (some [])) := (World.putObj_heap_other (by omega)).trans hk
    refine wpIn_mono (hbody _ pre M x _ (hput _ _ _ _ hi hl rfl) hlen (hIn x W _ _ _ hin hl rfl) (fun k h => ⟨(hm k h).imp id (fun h => by omega), by rw [World.putObj_size]; exact hlt k h⟩)) ?_
    intro e a3 W3 hp
    match e, hp with
    | .normal, ⟨hkf, hkm, hkb, hi3⟩ =>
      have hl3 := hkf.same _ _ (by omega) hl2 rfl
      have hend := run_endRound (P := P) none hl3
      rw [hrec] at hend
      refine ⟨_, _, hend, rfl, ⟨?_, ?_, ?_, hm⟩, ?_, ?_⟩
      · exact hput _ _ _ _ hi3 hl3 rfl
      · rw [hrec]; exact World.putObj_heap_same (Array.getElem?_eq_some_iff.1 hl3).1
      · exact (World.putObj_heap_other (by omega)).trans (hkf.same _ _ (Nat.le_refl _) hk2 rfl)
      · intro k h
        have hne := hnm k h
        rw [World.putObj_heap_other hne, hkm k h, World.putObj_heap_other hne]
      · have h1 : Below n₀ W (W.putObj (w.heap.size + 1) (.loop { rec .ready with state := .busy })) := belowK_b hn₀ W _ _ _ (by omega) hl rfl rfl
        exact (h1.trans hkb).trans (belowK_b hn₀ W3 _ _ _ (by omega) hl3 rfl rfl)
  · rintro e W2 ⟨⟨v, rfl⟩, xs, M, hS, hi, hl, hk, hm⟩
    have hend := run_endLoop (P := P) hl (by rw [hrec]; simp)
    rw [hrec] at hend
    exact ⟨none, _, hend, hdone _ xs M _ (Nat.le_refl _) hS (hI xs M W2 _ (some (w.heap.size + 1)) hi (grownBy_putObj' _ _ _) (fun r e => by cases e; exact .inl ⟨by omega, _, hl, rfl⟩) M (fun k h => .inl h)) ((World.putObj_heap_other (by omega)).trans hk)⟩
end Go.Proofs.Ytccpjfppkahbmaa
