/- Ranges over iterators with a known number of rounds; regions that draw, in rounds; which registers are read before they are written; slices.Backward. -/
import Derived.RangeFuncBox
import Derived.RangeFuncNested
import Derived.RangeFuncBound
import Derived.RangeFuncCalls
import Derived.RangeFuncLeaves
import Derived.Shelf.Abstract
import Derived.Shelf.RegionOpen
import Derived.WalkKit
import Derived.OwnWalkIn
import Derived.TacticsInMore
import Derived.LoopNIn
import Derived.LoopIn
import Derived.Maps.AppendAt
import Derived.Test.YtjfpaelmcepidaaKD
import Derived.Deep.RegionHeld3
import Derived.StillTailTactics
import Derived.Lib.Hide
import Derived.Test.YtjfpaelmcepidaaKP
namespace Go.Proofs.Ytjfpaelmcepidaa.PK
open Go.RowKit Go.Shelf

variable {F : Fence} {n : Nat} {P : Program}
/-- Only what is no cells and lies at or beyond B is turned; new blocks come. -/
structure Turn (B : Nat) (A A' : World) : Prop where
  os : A'.os = A.os
  tape : A'.tape = A.tape
  output : A'.output = A.output
  size : A.heap.size ≤ A'.heap.size
  block : ∀ (b : Nat) (o : Obj), A.heap[b]? = some o → b < B ∨ o.isCells = true → A'.heap[b]? = A.heap[b]?
theorem Turn.refl (B : Nat) (A : World) : Turn B A A := ⟨rfl, rfl, rfl, Nat.le_refl _, fun _ _ _ _ => rfl⟩
theorem Turn.trans {B : Nat} {a b c : World} (h : Turn B a b) (k : Turn B b c) : Turn B a c :=
  ⟨k.os.trans h.os, k.tape.trans h.tape, k.output.trans h.output, Nat.le_trans h.size k.size, fun i o hi hq => (k.block i o ((h.block i o hi hq).trans hi) hq).trans (h.block i o hi hq)⟩
theorem Turn.of_below {B : Nat} {A A' : World} (h : Below A.heap.size A A') : Turn B A A' := ⟨h.os, h.tape, h.output, h.size, fun b _ hb _ => h.block b (lt_of_block hb)⟩
theorem Turn.put {B : Nat} {A : World} {l : Nat} {o : Obj} (o' : Obj) (hl : A.heap[l]? = some o) (ho : o.isCells = false) (hB : B ≤ l) : Turn B A (A.putObj l o') :=
  ⟨rfl, rfl, rfl, by rw [World.putObj_size]; exact Nat.le_refl _, fun b ob hb hq => World.putObj_heap_other (fun e => by
    subst e
    rw [hl] at hb; cases hb
    rcases hq with h | h
    · omega
    · rw [ho] at h; cases h)⟩
theorem Turn.heap {B : Nat} {A A' : World} (h : Turn B A A') {b : Nat} {cs : Array Value} {t : TypeId} {fz : Nat × Nat} (hb : A.heap[b]? = some (.cells cs t fz)) : A'.heap[b]? = some (.cells cs t fz) := (h.block b _ hb (.inr rfl)).trans hb
theorem Turn.cell {B : Nat} {A A' : World} (h : Turn B A A') {b k : Nat} {v : Value} (hc : A.cell? ⟨b, k, none⟩ = some v) : A'.cell? ⟨b, k, none⟩ = some v := by
  obtain ⟨o, ho⟩ : ∃ o, A.heap[b]? = some o := ⟨_, Array.getElem?_eq_getElem (block_lt_of_cell hc)⟩
  have hq : o.isCells = true := by
    unfold World.cell? at hc
    simp only [ho] at hc
    cases o <;> first | rfl | cases hc
  rw [World.cell?_of_block (w := A) (h.block b o ho (.inr hq))]; exact hc
theorem Turn.below {B q : Nat} {w A A' : World} (h : Turn B A A') (hb : Below q w A) (hq : q ≤ B) (hA : q ≤ A.heap.size) : Below q w A' := by
  refine hb.trans ⟨h.os, h.tape, h.output, h.size, fun k hk => ?_⟩
  obtain ⟨o, ho⟩ : ∃ o, A.heap[k]? = some o := ⟨_, Array.getElem?_eq_getElem (by omega)⟩
  exact h.block k o ho (.inl (by omega))
theorem Turn.owns {B : Nat} {A A' : World} (h : Turn B A A') {base : Nat} {e : TypeId} {s n : Nat} {v : Value} {xs : List Value} (ho : A.ownsRow base e s v n xs) : A'.ownsRow base e s v n xs := by
  refine ⟨ho.1, ?_⟩
  rcases ho.2 with h1 | ⟨g, cap, cur, e, hg, hc, r⟩
  · exact .inl h1
  · exact .inr ⟨g, cap, cur, e, hg, h.heap hc, r⟩
theorem Turn.ints {B : Nat} {A A' : World} (h : Turn B A A') {a : Option Addr} {xs : List Int} (hi : IntsIn A a xs) : IntsIn A' a xs := fun k hk => by
  obtain ⟨b, off, rfl, hc⟩ := hi k hk
  exact ⟨b, off, rfl, h.cell hc⟩
theorem Turn.boxed {B : Nat} {A A' : World} (h : Turn B A A') {q : Nat} {t : TypeId} {v : Value} (hb : Boxed A q t v) : Boxed A' q t v := h.heap hb
/-- What a round keeps: what lies below n₀, and one block more (the iterator's own). -/
structure Kp (n₀ Bs : Nat) (A A' : World) : Prop where
  low : Below n₀ A A'
  own : A'.heap[Bs]? = A.heap[Bs]?
theorem Kp.refl (n₀ Bs : Nat) (A : World) : Kp n₀ Bs A A := ⟨Below.refl _ _, rfl⟩
theorem Kp.trans {n₀ Bs : Nat} {a b c : World} (h : Kp n₀ Bs a b) (k : Kp n₀ Bs b c) : Kp n₀ Bs a c := ⟨h.low.trans k.low, k.own.trans h.own⟩
theorem Kp.of_below {n₀ Bs : Nat} {A A' : World} (h : Below A.heap.size A A') (h1 : n₀ ≤ A.heap.size) (h2 : Bs < A.heap.size) : Kp n₀ Bs A A' := ⟨h.mono h1, h.block _ h2⟩
theorem Kp.setCell {n₀ Bs q : Nat} (A : World) (h1 : n₀ ≤ q) (h2 : Bs ≠ q) (k : Nat) (v : Value) : Kp n₀ Bs A (A.setCell ⟨q, k, none⟩ v) := ⟨(Below.refl _ _).setCell h1 v, Below.heap_setCell _ _ _ _ h2⟩
theorem Kp.cell {n₀ Bs : Nat} {A A' : World} (h : Kp n₀ Bs A A') {k : Nat} {v : Value} (hc : A.cell? ⟨Bs, k, none⟩ = some v) : A'.cell? ⟨Bs, k, none⟩ = some v := by
  rw [World.cell?_of_block (w := A) h.own]; exact hc
/-- The iterator's word. -/
def SeqN (F : Fence) (n : Nat) (P : Program) (g : Nat) (lb : Array Value) (encs : Nat → Array Value) (N n₀ Bs : Nat) (w : World) : Prop :=
  ∀ (l : Nat) (J Jx : Nat → World → Prop) (W : World), Below w.heap.size w W → (∀ k A A', Below A.heap.size A A' → J k A → J k A') → (∀ k A A', Below A.heap.size A A' → Jx k A → Jx k A') →
    (∀ k W1, J k W1 → k < N → YieldAt F (n - 1) P l (encs k) W1 fun e W' =>
      (e = .returned (.bool true) ∧ J (k + 1) W' ∧ Kp n₀ Bs W1 W') ∨ (e = .returned (.bool false) ∧ Jx (k + 1) W')) →
    J 0 W → CallsIn F n P g (#[.func (.yield l) #[] #[]] ++ lb) W fun e W' => (∃ v, e = .returned v) ∧ (J N W' ∨ ∃ k, k ≤ N ∧ Jx k W')
/-- How a round may end. -/
def postN (B n₀ Bs : Nat) (I : World → Prop) (Ix : Code → World → Prop) (W : World) : Exit → Act → World → Prop
  | .normal, _, W' => KeepsFrom B W W' ∧ Kp n₀ Bs W W' ∧ I W'
  | .ret, _, W' => KeepsFrom B W W' ∧ Ix .ret W'
  | .exit id, _, W' => KeepsFrom B W W' ∧ Ix (.exit id) W'
  | .goto t, _, W' => KeepsFrom B W W' ∧ Ix (.goto t) W'
  | _, _, _ => False
theorem wpIn_rangeFunc_list {g : Operand} {ps : Array Tmp} {assign body : Code} {Q : Exit → Act → World → Prop} {a : Act} {w : World}
    (hro : F.round = none) (h1 : 1 ≤ n) {gf : Nat} {lb : Array Value} (hg : a.eval g = .func (.func gf) #[] lb) (hFg : F.fn gf) (eg : ∀ args w, (callFunc gf args).run P w = .ok (.enter gf args) w)
    {encs : Nat → Array Value} {N n₀ Bs : Nat} (hseq : SeqN F (n - 1) P gf lb encs N n₀ Bs w) (hn₀ : n₀ ≤ w.heap.size) (hBs : Bs < w.heap.size) (hps : ∀ k, (encs k).size = ps.size)
    (I : Nat → World → Prop) (Ix : Code → Nat → World → Prop) (hI : ∀ k A A', Turn w.heap.size A A' → I k A → I k A') (hIx : ∀ c k A A', Turn w.heap.size A A' → Ix c k A → Ix c k A') (h0 : I 0 w)
    (Ax : Nat → Act → World → Prop) (hAx : ∀ k a' A A', Turn w.heap.size A A' → Ax k a' A → Ax k a' A')
    (hassign : ∀ (l k : Nat) (W : World) (K : Act → World → Prop), I k W → k < N → (∀ a' W', KeepsFrom w.heap.size W W' → Kp n₀ Bs W W' → Ax k a' W' → K a' W') →
      assign.wpIn (F.inRound l) (n - 1 - 1) P (Exit.then K (fun _ _ _ => False)) { tmps := (ps.zip (encs k)).foldl (fun t (p, v) => t.setIfInBounds p v) a.tmps, defers := [] } W)
    (hbody : ∀ (l k : Nat) (a' : Act) (W : World), w.heap.size ≤ l → (∃ r, W.heap[l]? = some (.loop r)) → Ax k a' W → k < N → body.wpIn (F.inRound l) (n - 1 - 1) P (postN w.heap.size n₀ Bs (I (k + 1)) (fun c => Ix c (k + 1)) W) a' W)
    (hdone : ∀ (D : Nat) (W : World), w.heap.size ≤ D → I N W → W.heap[D]? = some (.deferred (some [])) → Q .normal { a with defers := { target := .collected D, args := #[] } :: a.defers } W)
    (hstop : ∀ (D : Nat) (c : Code) (k : Nat) (W : World), w.heap.size ≤ D → k ≤ N → Ix c k W → W.heap[D]? = some (.deferred (some [])) → c.wpIn F n P Q { a with defers := { target := .collected D, args := #[] } :: a.defers } W) :
    (Code.rangeFunc g ps assign body).wpIn F n P Q a w := by
  refine wpIn_rangeFunc fun fn hfn => ?_
  rw [hro]
  obtain ⟨rec, hrec⟩ : ∃ rec : LoopState → Option Code → Loop, rec = fun st pe => { state := st, pending := pe, fn, tmps := a.tmps, params := ps, assign, body, defers := w.heap.size } := ⟨_, rfl⟩
  obtain ⟨W1, hW1⟩ : ∃ W1, (w.alloc (.deferred (some []))).alloc (.loop (rec .ready none)) = W1 := ⟨_, rfl⟩
  have hs1 : W1.heap.size = w.heap.size + 2 := by rw [← hW1]; simp
  have hL1 : W1.heap[w.heap.size + 1]? = some (.loop (rec .ready none)) := by
    have := World.alloc_heap_new (w.alloc (.deferred (some []))) (.loop (rec .ready none))
    rwa [World.size_alloc, hW1] at this
  have hK1 : W1.heap[w.heap.size]? = some (.deferred (some [])) := by
    rw [← hW1]; exact (Below.heap_alloc _ _ _ (by simp)).trans (World.alloc_heap_new w _)
  have hb1 : Below w.heap.size w W1 := by
    rw [← hW1]; exact ((Below.refl _ w).alloc (Nat.le_refl _) _).alloc (by simp) _
  have hI1 : I 0 W1 := hI 0 w W1 (Turn.of_below hb1) h0
  refine ⟨w.heap.size + 1, [{ target := .collected w.heap.size, args := #[] }], W1, { target := .fn (.func gf) lb, args := #[.func (.yield (w.heap.size + 1)) #[] #[]] }, W1, gf,
    #[.func (.yield (w.heap.size + 1)) #[] #[]] ++ lb, W1, ?_, ?_, ?_, ?_, fun _ => h1, ?_⟩
  · rw [← hW1, hrec]; exact run_enterLoop_outer _ _ _ _ _
  · simp only [resolve, hg]
    simp [go_sem]
  · intro f' hf'
    simp [Target.leads] at hf'
    subst hf'; exact hFg
  · simp [invoke, go_sem, eg]
  have keepB : ∀ (A A' : World) (b : Nat) (o : Obj), Below A.heap.size A A' → A.heap[b]? = some o → A'.heap[b]? = some o := fun A A' b o hb h => (hb.block b (lt_of_block h)).trans h
  refine (hseq (w.heap.size + 1)
    (fun k W => I k W ∧ W.heap[w.heap.size + 1]? = some (.loop (rec .ready none)) ∧ W.heap[w.heap.size]? = some (.deferred (some [])))
    (fun k W => ∃ c, Ix c k W ∧ W.heap[w.heap.size + 1]? = some (.loop (rec .done (some c))) ∧ W.heap[w.heap.size]? = some (.deferred (some [])))
    W1 hb1
    (fun k A A' hb ⟨h1, h2, h3⟩ => ⟨hI k A A' (Turn.of_below hb) h1, keepB _ _ _ _ hb h2, keepB _ _ _ _ hb h3⟩)
    (fun k A A' hb ⟨c, h1, h2, h3⟩ => ⟨c, hIx c k A A' (Turn.of_below hb) h1, keepB _ _ _ _ hb h2, keepB _ _ _ _ hb h3⟩) ?_ ⟨hI1, hL1, hK1⟩).mono ?_
  · rintro k W ⟨hi, hl, hk⟩ hlt
    have hy := run_yield (P := P) (args := encs k) hl (by rw [hrec]; exact hps k)
    rw [hrec] at hy
    refine ⟨fn, _, assign, body, hy, roundIn_of_wpIn hfn (hassign _ k W _ hi hlt ?_)⟩
    clear hy
    intro a' Wa hkf hbw hax
    have hl1 := hkf.same _ _ (by omega) hl rfl
    have hk1 := hkf.same _ _ (Nat.le_refl _) hk rfl
    have hl2 : (Wa.putObj (w.heap.size + 1) (.loop { rec .ready none with state := .busy })).heap[w.heap.size + 1]? = some (.loop { rec .ready none with state := .busy }) := World.putObj_heap_same (lt_of_block hl1)
    have hk2 : (Wa.putObj (w.heap.size + 1) (.loop { rec .ready none with state := .busy })).heap[w.heap.size]? = some (.deferred (some [])) := (World.putObj_heap_other (by omega)).trans hk1
    have hb2 : Kp n₀ Bs Wa (Wa.putObj (w.heap.size + 1) (.loop { rec .ready none with state := .busy })) := ⟨belowK_b hn₀ Wa _ _ _ (by omega) hl1 rfl rfl, World.putObj_heap_other (by omega)⟩
    refine ⟨_, run_beginRound hl1 (by rw [hrec]), ?_⟩
    refine wpIn_mono (hbody _ k a' _ (by omega) ⟨_, hl2⟩ (hAx k a' _ _ (Turn.put _ hl1 rfl (by omega)) hax) hlt) ?_
    have fin : ∀ (jump : Option Code) (W3 : World), KeepsFrom w.heap.size (Wa.putObj (w.heap.size + 1) (.loop { rec .ready none with state := .busy })) W3 →
        (Instr.endRound (w.heap.size + 1) jump).run P W3 = .ok (.bool jump.isNone) (W3.putObj (w.heap.size + 1) (.loop (rec (if jump.isNone then .ready else .done) jump))) ∧
        W3.heap[w.heap.size + 1]? = some (.loop { rec .ready none with state := .busy }) ∧
        (W3.putObj (w.heap.size + 1) (.loop (rec (if jump.isNone then .ready else .done) jump))).heap[w.heap.size + 1]? = some (.loop (rec (if jump.isNone then .ready else .done) jump)) ∧
        (W3.putObj (w.heap.size + 1) (.loop (rec (if jump.isNone then .ready else .done) jump))).heap[w.heap.size]? = some (.deferred (some [])) := fun jump W3 hk3 => by
      have hl3 := hk3.same _ _ (by omega) hl2 rfl
      have := run_endRound (P := P) jump hl3
      rw [hrec] at this ⊢
      exact ⟨this, by rw [hrec] at hl3; exact hl3, World.putObj_heap_same (lt_of_block hl3), (World.putObj_heap_other (by omega)).trans (hk3.same _ _ (Nat.le_refl _) hk2 rfl)⟩
    rintro e a3 W3 hp
    have turn : ∀ (o : Obj), W3.heap[w.heap.size + 1]? = some (.loop { rec .ready none with state := .busy }) → Turn w.heap.size W3 (W3.putObj (w.heap.size + 1) o) := fun o h => Turn.put o h rfl (by omega)
    match e, hp with
    | .normal, ⟨hk3, hkp3, hi3⟩ =>
      obtain ⟨hr, hl3, hl4, hk4⟩ := fin none W3 hk3
      exact ⟨_, _, hr, .inl ⟨rfl, ⟨hI _ _ _ (turn _ hl3) hi3, hl4, hk4⟩, (hbw.trans (hb2.trans hkp3)).trans ⟨belowK_b hn₀ W3 _ _ _ (by omega) hl3 rfl rfl, World.putObj_heap_other (by omega)⟩⟩⟩
    | .ret, ⟨hk3, hi3⟩ =>
      obtain ⟨hr, hl3, hl4, hk4⟩ := fin (some .ret) W3 hk3
      exact ⟨_, _, hr, .inr ⟨rfl, .ret, hIx _ _ _ _ (turn _ hl3) hi3, hl4, hk4⟩⟩
    | .exit id, ⟨hk3, hi3⟩ =>
      obtain ⟨hr, hl3, hl4, hk4⟩ := fin (some (.exit id)) W3 hk3
      exact ⟨_, _, hr, .inr ⟨rfl, .exit id, hIx _ _ _ _ (turn _ hl3) hi3, hl4, hk4⟩⟩
    | .goto t, ⟨hk3, hi3⟩ =>
      obtain ⟨hr, hl3, hl4, hk4⟩ := fin (some (.goto t)) W3 hk3
      exact ⟨_, _, hr, .inr ⟨rfl, .goto t, hIx _ _ _ _ (turn _ hl3) hi3, hl4, hk4⟩⟩
  · rintro e W2 ⟨⟨v, rfl⟩, (⟨hi, hl, hk⟩ | ⟨k, hkN, c, hi, hl, hk⟩)⟩
    · have hend := run_endLoop (P := P) hl (by rw [hrec]; simp)
      rw [hrec] at hend
      exact ⟨none, _, hend, hdone _ _ (Nat.le_refl _) (hI _ _ _ (Turn.put _ hl rfl (by omega)) hi) ((World.putObj_heap_other (by omega)).trans hk)⟩
    · have hend := run_endLoop (P := P) hl (by rw [hrec]; simp)
      rw [hrec] at hend
      exact ⟨some c, _, hend, hstop _ c k _ (Nat.le_refl _) hkN (hIx c _ _ _ (Turn.put _ hl rfl (by omega)) hi) ((World.putObj_heap_other (by omega)).trans hk)⟩
end Go.Proofs.Ytjfpaelmcepidaa.PK
namespace Go.Proofs.Ytjfpaelmcepidaa.PK
open Go.RowKit Go.Shelf

variable {P : Program} {n l : Nat} {ops : Array Oper} {Q : Exit → Act → World → Prop}
/-- No operation is a defer statement. -/
def plainB (ops : Array Oper) : Bool := ops.toList.all fun o => match o.op with
  | .defer _ => false
  | _ => true
theorem plainB_at (h : plainB ops = true) {i : Nat} {o : Oper} (ho : ops[i]? = some o) : ∀ c, o.op ≠ .defer c := by
  intro c hc
  unfold plainB at h
  rw [List.all_eq_true] at h
  have h2 := h o (by rw [← Array.getElem?_toList] at ho; exact List.mem_of_getElem? ho)
  rw [hc] at h2
  cases h2
theorem wpIn_of_oper {o : Oper} {a : Act} {w : World} {K : Act → World → Prop} (hd : ∀ c, o.op ≠ .defer c) (h : o.wp P a w K Q) : o.wpIn (Fence.wide.inRound l) n P a w K Q := by
  refine ⟨fun _ _ => trivial, ?_⟩
  rw [Oper.semAt_plain (Fence.wide.inRound l) _ _ hd]
  unfold Oper.wp at h
  generalize (execOp a.eval o).run P w = r at *
  cases r with
  | ok x w' =>
    cases x <;> simp only [Oper.upon] at h <;> simp only [Oper.uponIn]
    case value v => exact h
    case skip => exact h
    case defer d => exact h
    case enter f args => exact ⟨fun e => (by cases e), CallsIn.inRound l (callsIn_wide.2 h)⟩
    case row row args => exact ⟨fun e => (by cases e), fun c cs _ => (by obtain ⟨v, w', r, s⟩ := h c cs; exact ⟨v, w', r, stepsIn_wide.2 s⟩)⟩
  | halt x w' => cases x <;> simp only [Oper.upon] at h <;> simp only [Oper.uponIn] <;> exact h
theorem wpOpIn_of {i : Nat} {K K' : Act → World → Prop} {a : Act} {w : World} (hp : plainB ops = true) (hl : ¬ LetsOut Q) (hK : ∀ a w, K a w → K' a w) (h : wpOp P ops Q i K a w) : wpOpIn (Fence.wide.inRound l) n P ops Q i K' a w := by
  unfold wpOp at h
  unfold wpOpIn
  cases ho : ops[i]? with
  | none => rw [ho] at h; exact hK _ _ h
  | some o =>
    rw [ho] at h
    dsimp only at h ⊢
    by_cases hw : Region.wanted o (yielded ops a.tmps) = true
    · rw [if_pos hw] at h ⊢
      rcases h with h | ⟨_, h⟩
      · exact wpIn_of_oper (plainB_at hp ho) (Oper.wp_mono hK h)
      · exact absurd h hl
    · rw [if_neg hw] at h ⊢
      exact ⟨fun _ _ => trivial, hK _ _ h⟩
theorem wpAnyIn_of {md : Region.Mode} (hp : plainB ops = true) (hl : ¬ LetsOut Q) : ∀ (fuel : Nat) (listed : Array Bool) (a : Act) (w : World), wpAny P md ops Q fuel listed a w → wpAnyIn (Fence.wide.inRound l) n P md ops Q fuel listed a w
  | 0, _, _, _, h => h
  | fuel + 1, _, _, _, h => ⟨h.1, fun i hi => wpOpIn_of hp hl (fun a w h => wpAnyIn_of hp hl fuel _ a w h) (h.2 i hi)⟩
/-- In a round: S is shown of the world behind the draw, once, and handed on. -/
theorem wpIn_region_held_round {S : World → Prop} {id : Nat} {a : Act} {w : World} (hm : P.follows .mixedOrders = true) (hp : plainB ops = true) (hl : ¬ LetsOut Q) (hS : S w.drew)
    (h : S w.drew → wpAnyH P .any ops Q S ops.size (Array.replicate ops.size false) a w.drew) : (Code.region id ops true).wpIn (Fence.wide.inRound l) n P Q a w :=
  wpIn_region_any hm (wpAnyIn_of hp hl _ _ _ _ (wpAny_of_held _ _ _ _ (h hS)))
/-- A statement behind a structure. -/
structure Veil (p : Prop) : Prop where
  out : p
/-- The steps, with what is left hidden: the goal's head must not unfold. -/
theorem still_step_h {w : World} {Q : Act → Prop} {a : Act} {o : Oper} {rest : List Oper} (h : ∀ K : Act → Prop, Veil (∀ a, Veil (wpStill P ops w Q rest a) → K a) → if Region.wanted o (yielded ops a.tmps) then o.still P a w K else K (a.put o.dst undef)) : Veil (wpStill P ops w Q (o :: rest) a) :=
  ⟨wpStill_step fun K hK => h K ⟨fun a ha => hK a ha.out⟩⟩
/-- An operation whose guard strikes it out. -/
theorem still_skip_h {w : World} {Q : Act → Prop} {a : Act} {o : Oper} {rest : List Oper} (hw : Region.wanted o (yielded ops a.tmps) = false) (h : Veil (wpStill P ops w Q rest (a.put o.dst undef))) : Veil (wpStill P ops w Q (o :: rest) a) := by
  refine ⟨?_⟩
  unfold wpStill
  rw [hw]
  exact h.out
theorem still_nil_h {w : World} {Q : Act → Prop} {a : Act} (h : Q a) : Veil (wpStill P ops w Q [] a) := ⟨h⟩
/-- In a round: all operations but the last ones leave the world as it is. -/
theorem wpIn_region_tail_round {id : Nat} {a : Act} {w : World} {ls : List Oper} (k : Nat) (hm : P.follows .mixedOrders = true) (hp : plainB ls.toArray = true) (hl : ¬ LetsOut Q) (hB : Region.lexTailB .any ls.toArray k = true)
    (h : Veil (wpStill P ls.toArray w.drew (fun a' => wpList P ls.toArray Q (ls.drop k) a' w.drew) (ls.take k) a)) : (Code.region id ls.toArray true).wpIn (Fence.wide.inRound l) n P Q a w := by
  refine wpIn_region_any hm (wpAnyIn_of hp hl _ _ _ _ ?_)
  simp only [Region.lexTailB, Bool.and_eq_true, decide_eq_true_eq] at hB
  obtain ⟨⟨⟨⟨hsel, hn⟩, hs⟩, hc⟩, hlex⟩ := hB
  have hkl : k < ls.length := by simpa using hn
  have htl : (ls.take k).length = k := by simp; omega
  have inv0 : HeadInv .any ls.toArray k (Array.replicate ls.toArray.size false) :=
    ⟨by simp, fun j oj _ hf => (by rw [getD_replicate_false] at hf; cases hf), fun t _ ht => getD_in (by simpa using ht) (getD_replicate_false _ _)⟩
  have H := wpAnyL_lex (md := .any) (g := ls.toArray.size - k) hsel hs hc hn (ls.take k) 0 _ a (fun j hj => by
    have hj' : j < k := by rw [htl] at hj; exact hj
    simp [hj']) (by simpa using htl) inv0 (by rw [htl]; exact hlex) h.out
  have R := wpAny_of_head (Q' := Q) (g := ls.toArray.size - k) (fun listed a' hL => by
    have hS := wpAny_of_seq (md := .any) (Q' := Q) (ls.drop k) k listed a' w.drew (fun j => by simp [List.getElem?_drop]) (by rw [show (ls.drop k).length = ls.toArray.size - k by simp]; exact hL.1) hL.2
    rwa [show (ls.drop k).length = ls.toArray.size - k by simp] at hS) _ _ _ H
  rw [htl, show k + (ls.toArray.size - k) = ls.toArray.size by simp at hn ⊢; omega] at R
  exact R
/-- In a round: all operations leave the world as it is. -/
theorem wpIn_region_still_round {id : Nat} {a : Act} {w : World} {ls : List Oper} (hm : P.follows .mixedOrders = true) (hp : plainB ls.toArray = true) (hl : ¬ LetsOut Q) (hB : Region.lexB .any ls.toArray = true)
    (h : Veil (wpStill P ls.toArray w.drew (fun a' => Q .normal a' w.drew) ls a)) : (Code.region id ls.toArray true).wpIn (Fence.wide.inRound l) n P Q a w := by
  refine wpIn_region_any hm (wpAnyIn_of hp hl _ _ _ _ ?_)
  simp only [Region.lexB, Bool.and_eq_true] at hB
  refine wpAny_of_still (Q := fun a' => Q .normal a' w.drew) (fun _ h => h) _ _ _ ?_
  have H := wpAnyS_lex (md := .any) hB.1 ls 0 (Array.replicate ls.toArray.size false) a (by simp) (by simpa using hB.2) h.out
  simpa using H
/-- Outside of rounds. -/
theorem wp_region_tail_veil {id : Nat} {a : Act} {w : World} {ls : List Oper} (k : Nat) (hm : P.follows .mixedOrders = true) (hB : Region.lexTailB .any ls.toArray k = true)
    (h : Veil (wpStill P ls.toArray w.drew (fun a' => wpList P ls.toArray Q (ls.drop k) a' w.drew) (ls.take k) a)) : (Code.region id ls.toArray true).wp P Q a w := wp_region_still_tail k hm hB h.out
theorem wp_region_still_veil {id : Nat} {a : Act} {w : World} {ls : List Oper} (hm : P.follows .mixedOrders = true) (hB : Region.lexB .any ls.toArray = true)
    (h : Veil (wpStill P ls.toArray w.drew (fun a' => Q .normal a' w.drew) ls a)) : (Code.region id ls.toArray true).wp P Q a w := wp_region_still_lit hm hB h.out
end Go.Proofs.Ytjfpaelmcepidaa.PK
namespace Go.Proofs.Ytjfpaelmcepidaa.PK

def usesB (x : Cd) (r : Int) : Bool := (usesL x).contains r
def defB (x : Cd) (r : Int) : Bool := fD x.op && decide (x.d = r)
/-- A list reads a register before it writes it. -/
def hitL : List Cd → Int → Bool
  | [], _ => false
  | x :: l, r => usesB x r || (!defB x r && hitL l r)
/-- The blocks to which a list leads before it writes a register. -/
def goL : List Cd → Int → List Int
  | [], _ => []
  | x :: l, r => if defB x r then [] else (if fT x.op then x.to :: goL l r else goL l r)
/-- The registers that may be read in a block, or behind it, before they are written. -/
inductive LiveR (ls : List (List Cd)) (r : Int) : Nat → Prop
  | hit {b : Nat} : hitL (atB ls b) r = true → LiveR ls r b
  | go {b c : Nat} : (c : Int) ∈ goL (atB ls b) r → LiveR ls r c → LiveR ls r b
theorem fT_fD {op : Int} (h : fT op = true) : fD op = false := by
  unfold fT at h; unfold fD
  have := of_decide_eq_true h
  exact decide_eq_false (by omega)
theorem defB_fT {x : Cd} {r : Int} (h : fT x.op = true) : defB x r = false := by
  unfold defB; rw [fT_fD h]; rfl
/-- What a step backward through a list makes. -/
def liveL : List Cd → (Int → Int → Bool) → Int → Bool
  | [], _, _ => false
  | x :: l, inn, r => usesB x r || (!defB x r && liveL l inn r) || (fT x.op && inn x.to r)
theorem liveL_is (inn : Int → Int → Bool) (r : Int) : ∀ l : List Cd, liveL l inn r = (hitL l r || (goL l r).any fun c => inn c r)
  | [] => rfl
  | x :: l => by
    have ih := liveL_is inn r l
    unfold liveL hitL goL
    rw [ih]
    cases hT : fT x.op
    · cases hd : defB x r <;> simp [Bool.or_assoc]
    · have hd := defB_fT (r := r) hT
      simp only [hd, Bool.not_false, Bool.true_and, if_true, Bool.false_eq_true, if_false, List.any_cons]
      cases usesB x r <;> cases hitL l r <;> cases inn x.to r <;> simp
theorem liveL_mono {inn inn' : Int → Int → Bool} {r : Int} (h : ∀ c, inn c r = true → inn' c r = true) {l : List Cd} (hl : liveL l inn r = true) : liveL l inn' r = true := by
  rw [liveL_is, Bool.or_eq_true, List.any_eq_true] at *
  rcases hl with h1 | ⟨c, h1, h2⟩
  · exact .inl h1
  · exact .inr ⟨c, h1, h c h2⟩
theorem liveL_live {ls : List (List Cd)} {inn : Int → Int → Bool} {r : Int} {b : Nat} (hto : ∀ c ∈ goL (atB ls b) r, 0 ≤ c) (h : ∀ c : Nat, inn c r = true → LiveR ls r c) (hl : liveL (atB ls b) inn r = true) : LiveR ls r b := by
  rw [liveL_is, Bool.or_eq_true, List.any_eq_true] at hl
  rcases hl with h1 | ⟨c, h1, h2⟩
  · exact .hit h1
  · obtain ⟨n, rfl⟩ : ∃ n : Nat, c = n := ⟨c.toNat, by have := hto c h1; omega⟩
    exact .go h1 (h n h2)
/-- What abides every step contains all of them. -/
theorem live_fix {ls : List (List Cd)} {inn : Int → Int → Bool} {r : Int} (h : ∀ b : Nat, liveL (atB ls b) inn r = true → inn b r = true) : ∀ {b : Nat}, LiveR ls r b → inn b r = true := by
  intro b hl
  induction hl with
  | hit h1 => exact h _ (by rw [liveL_is, h1]; rfl)
  | go h1 _ ih => exact h _ (by rw [liveL_is, Bool.or_eq_true, List.any_eq_true]; exact .inr ⟨_, h1, ih⟩)
/-- What is closed and reads nothing reads nothing anywhere. -/
theorem live_closed {ls : List (List Cd)} {r : Int} {S : Nat → Prop} (h : ∀ b, S b → hitL (atB ls b) r = false ∧ ∀ c : Nat, (c : Int) ∈ goL (atB ls b) r → S c) : ∀ {b : Nat}, LiveR ls r b → ¬ S b := by
  intro b hl
  induction hl with
  | hit h1 => intro hs; rw [(h _ hs).1] at h1; cases h1
  | go h1 _ ih => intro hs; exact ih ((h _ hs).2 _ h1)

/-! ### Going through a list from the front -/
theorem hitL_app (l m : List Cd) (r : Int) (h : ∀ x ∈ l, usesB x r = false ∧ defB x r = false) : hitL (l ++ m) r = hitL m r := by
  induction l with
  | nil => rfl
  | cons x l ih =>
    have := h x (by simp)
    rw [List.cons_append, hitL, this.1, this.2, ih fun y hy => h y (by simp [hy])]
    simp
theorem goL_app (l m : List Cd) (r : Int) (h : ∀ x ∈ l, defB x r = false) : goL (l ++ m) r = (l.filter fun x => fT x.op).map (·.to) ++ goL m r := by
  induction l with
  | nil => rfl
  | cons x l ih =>
    have := h x (by simp)
    rw [List.cons_append, goL, this, ih fun y hy => h y (by simp [hy])]
    cases hT : fT x.op <;> simp [hT]
theorem goL_to {ls : List Cd} {r : Int} {P : Int → Prop} (h : ∀ x ∈ ls, fT x.op = true → P x.to) : ∀ c ∈ goL ls r, P c := by
  induction ls with
  | nil => intro c hc; cases hc
  | cons x l ih =>
    intro c hc
    unfold goL at hc
    split at hc
    · cases hc
    · split at hc
      · rename_i hT
        rcases List.mem_cons.1 hc with rfl | hc
        · exact h x (by simp) hT
        · exact ih (fun y hy => h y (by simp [hy])) c hc
      · exact ih (fun y hy => h y (by simp [hy])) c hc
/-- Going through a list backward. -/
theorem liveL_drop (l : List Cd) (k : Nat) (h : k < l.length) (inn : Int → Int → Bool) (r : Int) : liveL (l.drop k) inn r = (usesB (atC l k) r || (!defB (atC l k) r && liveL (l.drop (k + 1)) inn r) || (fT (atC l k).op && inn (atC l k).to r)) := by
  rw [List.drop_eq_getElem_cons h, ← atC_get h]; rfl

/-! ### A search in depth -/
def unseen (S : Nat → Bool) : Nat → Nat
  | 0 => 0
  | n + 1 => unseen S n + if S n then 0 else 1
theorem unseen_mono {S S' : Nat → Bool} (h : ∀ k, S k = true → S' k = true) : ∀ n, unseen S' n ≤ unseen S n
  | 0 => Nat.le_refl _
  | n + 1 => by
    have := unseen_mono h n
    unfold unseen
    cases h1 : S n
    · simp only [Bool.false_eq_true, if_false]; split <;> omega
    · rw [h n h1]; simpa using this
theorem unseen_lt {S S' : Nat → Bool} (h : ∀ k, S k = true → S' k = true) {b : Nat} (h0 : S b = false) (h1 : S' b = true) : ∀ {n}, b < n → unseen S' n < unseen S n
  | 0, hb => absurd hb (Nat.not_lt_zero _)
  | n + 1, hb => by
    unfold unseen
    by_cases e : b = n
    · subst e
      have := unseen_mono h b
      rw [h0, h1]; simp; omega
    · have := unseen_lt h h0 h1 (n := n) (by omega)
      cases h2 : S n
      · simp only [Bool.false_eq_true, if_false]; split <;> omega
      · rw [h n h2]; simpa using this
theorem unseen_le (S : Nat → Bool) : ∀ n, unseen S n ≤ n
  | 0 => Nat.le_refl _
  | n + 1 => by
    have := unseen_le S n
    unfold unseen; split <;> omega
def seeB (S : Nat → Bool) (b : Nat) : Nat → Bool := fun k => if k = b then true else S k
theorem seeB_at (S : Nat → Bool) (b : Nat) : seeB S b b = true := if_pos rfl
theorem seeB_mono {S : Nat → Bool} {b : Nat} : ∀ k, S k = true → seeB S b k = true := fun k h => by
  unfold seeB; split
  · rfl
  · exact h
theorem seeB_inv {S : Nat → Bool} {b k : Nat} (h : seeB S b k = true) (hk : k ≠ b) : S k = true := by
  unfold seeB at h; rwa [if_neg hk] at h
/-- Block k is closed: it reads nothing, and leads to what is seen. -/
def ShutB (ls : List (List Cd)) (r : Int) (S : Nat → Bool) (k : Nat) : Prop := hitL (atB ls k) r = false ∧ ∀ c : Nat, (c : Int) ∈ goL (atB ls k) r → S c = true
theorem ShutB.mono {ls : List (List Cd)} {r : Int} {S S' : Nat → Bool} {k : Nat} (h : ShutB ls r S k) (hs : ∀ k, S k = true → S' k = true) : ShutB ls r S' k := ⟨h.1, fun c hc => hs c (h.2 c hc)⟩
/-- What a search that found nothing leaves. -/
structure Dfs (ls : List (List Cd)) (r : Int) (b : Nat) (S S' : Nat → Bool) : Prop where
  mono : ∀ k, S k = true → S' k = true
  here : S' b = true
  shut : ∀ k, S' k = true → S k = false → ShutB ls r S' k
/-- What it has left when it has gone through the first i instructions. -/
structure DfsI (ls : List (List Cd)) (r : Int) (b i : Nat) (S S' : Nat → Bool) : Prop where
  mono : ∀ k, S k = true → S' k = true
  here : S' b = true
  shut : ∀ k, S' k = true → S k = false → k ≠ b → ShutB ls r S' k
  none : ∀ x ∈ (atB ls b).take i, usesB x r = false ∧ defB x r = false
  seen : ∀ x ∈ (atB ls b).take i, fT x.op = true → S' x.to.toNat = true
theorem DfsI.start (ls : List (List Cd)) (r : Int) (b : Nat) (S : Nat → Bool) : DfsI ls r b 0 S (seeB S b) :=
  ⟨seeB_mono, seeB_at S b, fun k h1 h2 h3 => (by rw [seeB_inv h1 h3] at h2; cases h2), fun x hx => (by simp at hx), fun x hx => (by simp at hx)⟩
theorem take_atCl {l : List Cd} {i : Nat} (h : i < l.length) {x : Cd} (hx : x ∈ l.take (i + 1)) : x ∈ l.take i ∨ x = atC l i := by
  rw [take_atC h, List.mem_append, List.mem_singleton] at hx; exact hx
theorem DfsI.next {ls : List (List Cd)} {r : Int} {b i : Nat} {S S' : Nat → Bool} (h : DfsI ls r b i S S') (hi : i < (atB ls b).length) (hu : usesB (atC (atB ls b) i) r = false) (hd : defB (atC (atB ls b) i) r = false) (ht : fT (atC (atB ls b) i).op = true → S' (atC (atB ls b) i).to.toNat = true) : DfsI ls r b (i + 1) S S' :=
  ⟨h.mono, h.here, h.shut, fun x hx => by
    rcases take_atCl hi hx with h1 | rfl
    · exact h.none x h1
    · exact ⟨hu, hd⟩, fun x hx hf => by
    rcases take_atCl hi hx with h1 | rfl
    · exact h.seen x h1 hf
    · exact ht hf⟩
theorem DfsI.into {ls : List (List Cd)} {r : Int} {b i c : Nat} {S S' S2 : Nat → Bool} (h : DfsI ls r b i S S') (h2 : Dfs ls r c S' S2) : DfsI ls r b i S S2 :=
  ⟨fun k hk => h2.mono k (h.mono k hk), h2.mono b h.here, fun k h3 h4 h5 => by
    cases h6 : S' k
    · exact h2.shut k h3 h6
    · exact (h.shut k h6 h4 h5).mono h2.mono, h.none, fun x hx hf => h2.mono _ (h.seen x hx hf)⟩
theorem split_at {l : List Cd} {i : Nat} (h : i < l.length) : l = l.take i ++ atC l i :: l.drop (i + 1) := by
  rw [atC_get h, ← List.drop_eq_getElem_cons h, List.take_append_drop]
theorem DfsI.targets {ls : List (List Cd)} {r : Int} {b i : Nat} {S S' : Nat → Bool} (h : DfsI ls r b i S S') {c : Nat} (hc : (c : Int) ∈ (((atB ls b).take i).filter fun x => fT x.op).map (·.to)) : S' c = true := by
  obtain ⟨x, hx, e⟩ := List.mem_map.1 hc
  obtain ⟨hx1, hx2⟩ := List.mem_filter.1 hx
  have := h.seen x hx1 hx2
  rw [e] at this
  exact this
theorem DfsI.all {ls : List (List Cd)} {r : Int} {b : Nat} {S S' : Nat → Bool} (h : DfsI ls r b (atB ls b).length S S') : Dfs ls r b S S' :=
  ⟨h.mono, h.here, fun k h1 h2 => by
    by_cases e : k = b
    · subst e
      have h3 := h.none
      have ht : ∀ c : Nat, (c : Int) ∈ (((atB ls k).take (atB ls k).length).filter fun x => fT x.op).map (·.to) → S' c = true := fun c hc => h.targets hc
      rw [List.take_length] at h3 ht
      have e1 := hitL_app (atB ls k) [] r h3
      have e2 := goL_app (atB ls k) [] r fun x hx => (h3 x hx).2
      rw [List.append_nil] at e1 e2
      refine ⟨e1, fun c hc => ?_⟩
      rw [e2] at hc
      simp only [goL, List.append_nil] at hc
      exact ht c hc
    · exact h.shut k h1 h2 e⟩
theorem DfsI.defined {ls : List (List Cd)} {r : Int} {b i : Nat} {S S' : Nat → Bool} (h : DfsI ls r b i S S') (hi : i < (atB ls b).length) (hu : usesB (atC (atB ls b) i) r = false) (hd : defB (atC (atB ls b) i) r = true) : Dfs ls r b S S' :=
  ⟨h.mono, h.here, fun k h1 h2 => by
    by_cases e : k = b
    · subst e
      have e1 := hitL_app ((atB ls k).take i) (atC (atB ls k) i :: (atB ls k).drop (i + 1)) r h.none
      have e2 := goL_app ((atB ls k).take i) (atC (atB ls k) i :: (atB ls k).drop (i + 1)) r fun x hx => (h.none x hx).2
      rw [← split_at hi] at e1 e2
      refine ⟨by rw [e1, hitL, hu, hd]; rfl, fun c hc => ?_⟩
      rw [e2, goL, if_pos hd, List.append_nil] at hc
      exact h.targets hc
    · exact h.shut k h1 h2 e⟩
theorem DfsI.hits {ls : List (List Cd)} {r : Int} {b i : Nat} {S S' : Nat → Bool} (h : DfsI ls r b i S S') (hi : i < (atB ls b).length) (hu : usesB (atC (atB ls b) i) r = true) : LiveR ls r b := by
  have e1 := hitL_app ((atB ls b).take i) (atC (atB ls b) i :: (atB ls b).drop (i + 1)) r h.none
  rw [← split_at hi] at e1
  exact .hit (by rw [e1, hitL, hu]; rfl)
theorem DfsI.goes {ls : List (List Cd)} {r : Int} {b i c : Nat} {S S' : Nat → Bool} (h : DfsI ls r b i S S') (hi : i < (atB ls b).length) (ht : fT (atC (atB ls b) i).op = true) (hc : (atC (atB ls b) i).to = c) (hl : LiveR ls r c) : LiveR ls r b := by
  have e2 := goL_app ((atB ls b).take i) (atC (atB ls b) i :: (atB ls b).drop (i + 1)) r fun x hx => (h.none x hx).2
  rw [← split_at hi] at e2
  refine .go (c := c) ?_ hl
  rw [e2, goL, if_neg (by rw [defB_fT ht]; exact Bool.false_ne_true), if_pos ht, ← hc]
  simp
theorem Dfs.not_live {ls : List (List Cd)} {r : Int} {b : Nat} {S' : Nat → Bool} (h : Dfs ls r b (fun _ => false) S') : ¬ LiveR ls r b := fun hl =>
  live_closed (S := fun k => S' k = true) (fun k hk => h.shut k hk rfl) hl h.here
end Go.Proofs.Ytjfpaelmcepidaa.PK
namespace Go.Proofs.Ytjfpaelmcepidaa.PK
open Go.RowKit Go.Shelf
attribute [local go_sem] Oper.semAt_some

/-- The value of an instruction. -/
abbrev cdV (x : Cd) : Value := (.agg #[.int .i64 x.op, .int .i64 x.d, .int .i64 x.a, .int .i64 x.b, .int .u32 x.im, .int .i64 x.to])
theorem back_cast {n k : Nat} (h : k < n) : ((n - 1 - k : Nat) : Int) = (n : Int) - 1 - k := by omega
set_option maxRecDepth 100000 in
set_option maxHeartbeats 2000000 in
theorem backC_in (F : Fence) (n : Nat) (hF : F.fn 117) (hro : F.round = none) (hn : 1 ≤ n) (l Bs : Nat) (a : Option Addr) (cap : Nat) (zs : List Cd) (hl : zs.length ≤ 9223372036854775807) (w0 : World) (hI : CdsIn w0 a zs) (J Jx : Nat → World → Prop)
    (hY : ∀ k W, J k W → k < zs.length → YieldAt F (n - 1) Try.prog l #[.int .i64 ((zs.length - 1 - k : Nat) : Int), cdV (atC zs (zs.length - 1 - k))] W fun e W' =>
      (e = .returned (.bool true) ∧ J (k + 1) W' ∧ Kp w0.heap.size Bs W W') ∨ (e = .returned (.bool false) ∧ Jx (k + 1) W'))
    (W : World) (hb0 : Below w0.heap.size w0 W) (hBs : W.cell? ⟨Bs, 0, none⟩ = some (.slice a zs.length cap)) (h0 : J 0 W) :
    CallsIn F n Try.prog 117 #[.func (.yield l) #[] #[], .pointer (some ⟨Bs, 0, none⟩)] W fun e W' => (∃ v, e = .returned v) ∧
      (J zs.length W' ∨ (∃ k, k ≤ zs.length ∧ Jx k W')) := by
  refine callsIn_of_wp Try.func117 rfl hF ?_ hro
  simp only [Try.ntmps117, List.size_toArray, List.length_cons, List.length_nil, Nat.reduceAdd, Nat.reduceSub, Array.replicate_succ, Array.replicate_zero, List.push_toArray, List.append_toArray, List.nil_append, List.cons_append]
  gi_wp2
  gi_loopw [3] (fun i wr => ∃ k m : Nat, k + m = zs.length ∧ i = .int .i64 ((m : Int) - 1) ∧ J k wr ∧ Kp w0.heap.size Bs W wr)
    (fun i _ => (intOf i + 1).toNat)
  case atStart => exact ⟨0, zs.length, by omega, rfl, h0, Kp.refl _ _ _⟩
  case round =>
    obtain ⟨k, m, hk, rfl, hJs, hnx⟩ := hrel
    have hbx := hnx.cell hBs
    rcases m with _ | m
    · obtain rfl : k = zs.length := by omega
      gi_wp2
      go_end0
      exact ⟨⟨_, rfl⟩, .inl hJs⟩
    · obtain ⟨b, off, rfl, hc⟩ := hI.below (hb0.trans hnx.low) m (by omega)
      obtain ⟨fn, tmps, assign, body, hy, hR⟩ := hY _ wr hJs (by omega)
      rw [show zs.length - 1 - k = m by omega] at hy
      rw [show ((m + 1 : Nat) : Int) - 1 = (m : Int) by omega]
      obtain ⟨c0, c1, c2, c3, c4, c5⟩ := hc
      simp only [cdV] at hy
      have hml : (m : Int) ≤ 9223372036854775807 := by omega
      have hmz : (m : Int) < zs.length := by omega
      gi_wp2
      refine hR.mono ?_
      rintro e W3 (⟨rfl, hJ3, hk3⟩ | ⟨rfl, hJx3⟩)
      · gi_wp2
        go_roundw
        case rel => exact ⟨k + 1, m, by omega, rfl, hJ3, hnx.trans hk3⟩
        case measure => simp [intOf]
      · gi_wp2
        refine bodyPost_ret (results_none rfl _ _ _) rfl ?_
        exact ⟨⟨_, rfl⟩, .inr ⟨_, by omega, hJx3⟩⟩
theorem backC_seq (F : Fence) (n : Nat) (hF : F.fn 117) (hro : F.round = none) (hn : 1 ≤ n) (Bs : Nat) (a : Option Addr) (cap : Nat) (zs : List Cd) (hl : zs.length ≤ 9223372036854775807) (w0 w : World) (hb0 : Below w0.heap.size w0 w) (hI : CdsIn w0 a zs) (hBs : Bs < w.heap.size)
    (hc : w.cell? ⟨Bs, 0, none⟩ = some (.slice a zs.length cap)) :
    SeqN F n Try.prog 117 #[.pointer (some ⟨Bs, 0, none⟩)] (fun k => #[.int .i64 ((zs.length - 1 - k : Nat) : Int), cdV (atC zs (zs.length - 1 - k))]) zs.length w0.heap.size Bs w := fun l J Jx W hW _ _ hY h0 =>
  backC_in F n hF hro hn l Bs a cap zs hl w0 hI J Jx hY W (hb0.trans (hW.mono hb0.size)) ((hW.cell (p := ⟨Bs, 0, none⟩) hBs).trans hc) h0
theorem backC_any (a : Option Addr) (len cap : Nat) (w : World) :
    Calls Try.prog 91 #[.slice a len cap] w fun e w' => e = .returned (.func (.func 117) #[] #[.pointer (some ⟨w.heap.size, 0, none⟩)]) ∧ w' = w.alloc (.cells #[.slice a len cap] 48) := by
  go_enter Try.func91, Try.ntmps91
  go_wp2_with fail
  go_ret
  exact ⟨rfl, rfl⟩
/-- The cells of a row are these values. -/
def ValsIn (w : World) (a : Option Addr) (n : Nat) (f : Nat → Value) : Prop := ∀ k, k < n → ∃ b off, a = some ⟨b, off, none⟩ ∧ w.cell? ⟨b, off + k, none⟩ = some (f k)
theorem ValsIn.below {w w' : World} {a : Option Addr} {n : Nat} {f : Nat → Value} (h : ValsIn w a n f) (hb : Below w.heap.size w w') : ValsIn w' a n f := fun k hk => by
  obtain ⟨b, off, rfl, hc⟩ := h k hk
  exact ⟨b, off, rfl, keep hc hb⟩
set_option maxRecDepth 100000 in
set_option maxHeartbeats 2000000 in
theorem backB_in (F : Fence) (n : Nat) (hF : F.fn 90) (hro : F.round = none) (hn : 1 ≤ n) (l Bs : Nat) (a : Option Addr) (cap N : Nat) (f : Nat → Value) (hsl : ∀ k, ∃ a' n' c', f k = .slice a' n' c') (hl : N ≤ 9223372036854775807) (w0 : World) (hI : ValsIn w0 a N f) (J Jx : Nat → World → Prop)
    (hY : ∀ k W, J k W → k < N → YieldAt F (n - 1) Try.prog l #[.int .i64 ((N - 1 - k : Nat) : Int), f (N - 1 - k)] W fun e W' =>
      (e = .returned (.bool true) ∧ J (k + 1) W' ∧ Kp w0.heap.size Bs W W') ∨ (e = .returned (.bool false) ∧ Jx (k + 1) W'))
    (W : World) (hb0 : Below w0.heap.size w0 W) (hBs : W.cell? ⟨Bs, 0, none⟩ = some (.slice a N cap)) (h0 : J 0 W) :
    CallsIn F n Try.prog 90 #[.func (.yield l) #[] #[], .pointer (some ⟨Bs, 0, none⟩)] W fun e W' => (∃ v, e = .returned v) ∧
      (J N W' ∨ (∃ k, k ≤ N ∧ Jx k W')) := by
  refine callsIn_of_wp Try.func90 rfl hF ?_ hro
  simp only [Try.ntmps90, List.size_toArray, List.length_cons, List.length_nil, Nat.reduceAdd, Nat.reduceSub, Array.replicate_succ, Array.replicate_zero, List.push_toArray, List.append_toArray, List.nil_append, List.cons_append]
  gi_wp2
  gi_loopw [3] (fun i wr => ∃ k m : Nat, k + m = N ∧ i = .int .i64 ((m : Int) - 1) ∧ J k wr ∧ Kp w0.heap.size Bs W wr)
    (fun i _ => (intOf i + 1).toNat)
  case atStart => exact ⟨0, N, by omega, rfl, h0, Kp.refl _ _ _⟩
  case round =>
    obtain ⟨k, m, hk, rfl, hJs, hnx⟩ := hrel
    have hbx := hnx.cell hBs
    rcases m with _ | m
    · obtain rfl : k = N := by omega
      gi_wp2
      go_end0
      exact ⟨⟨_, rfl⟩, .inl hJs⟩
    · obtain ⟨b, off, rfl, hc⟩ := hI.below (hb0.trans hnx.low) m (by omega)
      obtain ⟨fn, tmps, assign, body, hy, hR⟩ := hY _ wr hJs (by omega)
      rw [show N - 1 - k = m by omega] at hy
      rw [show ((m + 1 : Nat) : Int) - 1 = (m : Int) by omega]
      obtain ⟨a', n', c', hfm⟩ := hsl m
      rw [hfm] at hc hy
      clear hfm
      have hml : (m : Int) ≤ 9223372036854775807 := by omega
      have hmz : (m : Int) < N := by omega
      gi_wp2
      refine hR.mono ?_
      rintro e W3 (⟨rfl, hJ3, hk3⟩ | ⟨rfl, hJx3⟩)
      · gi_wp2
        go_roundw
        case rel => exact ⟨k + 1, m, by omega, rfl, hJ3, hnx.trans hk3⟩
        case measure => simp [intOf]
      · gi_wp2
        refine bodyPost_ret (results_none rfl _ _ _) rfl ?_
        exact ⟨⟨_, rfl⟩, .inr ⟨_, by omega, hJx3⟩⟩
theorem backB_seq (F : Fence) (n : Nat) (hF : F.fn 90) (hro : F.round = none) (hn : 1 ≤ n) (Bs : Nat) (a : Option Addr) (cap N : Nat) (f : Nat → Value) (hsl : ∀ k, ∃ a' n' c', f k = .slice a' n' c') (hl : N ≤ 9223372036854775807) (w0 w : World) (hb0 : Below w0.heap.size w0 w) (hI : ValsIn w0 a N f) (hBs : Bs < w.heap.size)
    (hc : w.cell? ⟨Bs, 0, none⟩ = some (.slice a N cap)) :
    SeqN F n Try.prog 90 #[.pointer (some ⟨Bs, 0, none⟩)] (fun k => #[.int .i64 ((N - 1 - k : Nat) : Int), f (N - 1 - k)]) N w0.heap.size Bs w := fun l J Jx W hW _ _ hY h0 =>
  backB_in F n hF hro hn l Bs a cap N f hsl hl w0 hI J Jx hY W (hb0.trans (hW.mono hb0.size)) ((hW.cell (p := ⟨Bs, 0, none⟩) hBs).trans hc) h0
theorem backB_any (a : Option Addr) (len cap : Nat) (w : World) :
    Calls Try.prog 54 #[.slice a len cap] w fun e w' => e = .returned (.func (.func 90) #[] #[.pointer (some ⟨w.heap.size, 0, none⟩)]) ∧ w' = w.alloc (.cells #[.slice a len cap] 22) := by
  go_enter Try.func54, Try.ntmps54
  go_wp2_with fail
  go_ret
  exact ⟨rfl, rfl⟩
end Go.Proofs.Ytjfpaelmcepidaa.PK
