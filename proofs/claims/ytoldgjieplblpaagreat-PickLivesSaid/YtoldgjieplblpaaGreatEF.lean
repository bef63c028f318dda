/- The small machine: code; what is reckoned out of an empty heap holds of every world. -/
import Derived.Test.YtoldgjieplblpaaGreatEE
import Derived.LoopNIn
namespace Go.Proofs.YtoldgjieplblpaaGreat.Mini
open Go.RowKit

variable {P : Program} {B : Nat}
theorem no_loop {rd : Option Nat} {c : Code} {F F' : Fr} {H H' : Heap} {e : Ex} (h : ∀ b, c ≠ .loop b) : LoopDoes P B rd c F H e F' H' := fun b e => absurd e (h b)
theorem code_got {X : FuncId → Option (List MV → (MV → Prg) → Prg)} (hX : StandOk P B X) (hm : P.follows .mixedOrders = true) (hN : ∀ (f : Nat) (fn : Func), P.funcs[f]? = some fn → (fn.name == "runtime.NumGoroutine") = false) : ∀ fuel, CodeOk P B (codeK P X fuel)
  | 0 => fun rd c F k H cn l out h => by unfold codeK at h; exact (not_fail h).elim
  | fuel + 1 => by
    have ih := code_got hX hm hN fuel
    have hcall := callK_got hX hN ih
    have hfun := fun_got hX hN ih
    intro rd c F k H cn l out h
    cases c with
    | skip =>
      unfold codeK at h
      exact ⟨.normal, F, H, cn, l, h, fun Fc n hW x w a Q hrd hR ha hQ => wpIn_skip (hQ x w a (Env.le_refl x) hR ha (Below.refl B w)), no_loop (fun b e => by cases e)⟩
    | label i =>
      unfold codeK at h
      exact ⟨.normal, F, H, cn, l, h, fun Fc n hW x w a Q hrd hR ha hQ => wpIn_label (hQ x w a (Env.le_refl x) hR ha (Below.refl B w)), no_loop (fun b e => by cases e)⟩
    | exit i =>
      unfold codeK at h
      exact ⟨.exit i, F, H, cn, l, h, fun Fc n hW x w a Q hrd hR ha hQ => wpIn_exit (hQ x w a (Env.le_refl x) hR ha (Below.refl B w)), no_loop (fun b e => by cases e)⟩
    | ret =>
      unfold codeK at h
      exact ⟨.ret, F, H, cn, l, h, fun Fc n hW x w a Q hrd hR ha hQ => wpIn_ret (hQ x w a (Env.le_refl x) hR ha (Below.refl B w)), no_loop (fun b e => by cases e)⟩
    | region id ops d =>
      unfold codeK at h
      dsimp only [regionK] at h
      cases d with
      | false =>
        dsimp only at h
        obtain ⟨F', H', c', l', h1, h2⟩ := reg_got hcall ops _ _ _ _ _ _ _ h
        exact ⟨.normal, F', H', c', l', h1, fun Fc n hW x w a Q hrd hR ha hQ => wpIn_region_list (h2 Fc n hW x w a Q hR ha hQ), no_loop (fun b e => by cases e)⟩
      | true =>
        dsimp only at h
        split at h
        · rename_i hs
          obtain ⟨items, F', H', c', l', h1, h2, h3, h4⟩ := regD_ran _ _ _ _ _ _ _ _ _ h
          rw [List.append_nil] at h1
          dsimp only at h1
          split at h1
          · rename_i hl
            have hrem := rem_start hs hl h3 h4
            have hlen : items.length = ops.size := by
              have := congrArg List.length h3
              simpa using this
            refine ⟨.normal, F', H', c', l', h1, fun Fc n hW x w a Q hrd hR ha hQ => wpIn_region_any hm ?_, no_loop (fun b e => by cases e)⟩
            exact ran_any hcall (static_spec hs).1 hW ops.size items _ F H x a _ Q hlen hrem h2 (hR.same rfl) ha fun y w' a' q1 q2 q3 q4 => hQ y w' a' q1 q2 q3 ((Below.refl B w).drew.trans q4)
          · exact (not_fail h1).elim
        · exact (not_fail h).elim
    | seq p q =>
      unfold codeK at h
      obtain ⟨e, F1, H1, c1, l1, h1, h2, _⟩ := ih _ _ _ _ _ _ _ _ h
      cases e with
      | normal =>
        dsimp only [thenK] at h1
        obtain ⟨e, F2, H2, c2, l2, h3, h4, _⟩ := ih _ _ _ _ _ _ _ _ h1
        refine ⟨e, F2, H2, c2, l2, h3, fun Fc n hW x w a Q hrd hR ha hQ => wpIn_seq ?_, no_loop (fun b e => by cases e)⟩
        refine h2 Fc n hW x w a _ hrd hR ha fun y w1 a1 q1 q2 q3 q4 => ?_
        exact h4 Fc n hW y w1 a1 Q (hrd.le q1) q2 q3 fun z w2 a2 r1 r2 r3 r4 => hQ z w2 a2 (Env.le_trans q1 r1) r2 r3 (q4.trans r4)
      | exit i => exact ⟨.exit i, F1, H1, c1, l1, h1, fun Fc n hW x w a Q hrd hR ha hQ => wpIn_seq (h2 Fc n hW x w a _ hrd hR ha fun y w1 a1 q1 q2 q3 q4 => hQ y w1 a1 q1 q2 q3 q4), no_loop (fun b e => by cases e)⟩
      | ret => exact ⟨.ret, F1, H1, c1, l1, h1, fun Fc n hW x w a Q hrd hR ha hQ => wpIn_seq (h2 Fc n hW x w a _ hrd hR ha fun y w1 a1 q1 q2 q3 q4 => hQ y w1 a1 q1 q2 q3 q4), no_loop (fun b e => by cases e)⟩
    | cond y p q =>
      unfold codeK at h
      dsimp only [condK] at h
      rw [evK_eq] at h
      split at h
      · rename_i ey
        obtain ⟨e, F1, H1, c1, l1, h1, h2, _⟩ := ih _ _ _ _ _ _ _ _ h
        refine ⟨e, F1, H1, c1, l1, h1, fun Fc n hW x w a Q hrd hR ha hQ => wpIn_cond_true ?_ (h2 Fc n hW x w a Q hrd hR ha hQ), no_loop (fun b e => by cases e)⟩
        have := ha.eval y
        rw [ey] at this
        exact this.v_eq
      · rename_i ey
        obtain ⟨e, F1, H1, c1, l1, h1, h2, _⟩ := ih _ _ _ _ _ _ _ _ h
        refine ⟨e, F1, H1, c1, l1, h1, fun Fc n hW x w a Q hrd hR ha hQ => wpIn_cond_false ?_ (h2 Fc n hW x w a Q hrd hR ha hQ), no_loop (fun b e => by cases e)⟩
        have := ha.eval y
        rw [ey] at this
        exact this.v_eq
      · exact (not_fail h).elim
    | block id p =>
      unfold codeK at h
      obtain ⟨e, F1, H1, c1, l1, h1, h2, _⟩ := ih _ _ _ _ _ _ _ _ h
      cases e with
      | normal => exact ⟨.normal, F1, H1, c1, l1, h1, fun Fc n hW x w a Q hrd hR ha hQ => wpIn_block (h2 Fc n hW x w a _ hrd hR ha fun y w1 a1 q1 q2 q3 q4 => hQ y w1 a1 q1 q2 q3 q4), no_loop (fun b e => by cases e)⟩
      | exit i =>
        dsimp only [endBlockK] at h1
        split at h1
        · rename_i hi
          have hi := beq_eq hi
          exact ⟨.normal, F1, H1, c1, l1, h1, fun Fc n hW x w a Q hrd hR ha hQ => wpIn_block (h2 Fc n hW x w a _ hrd hR ha fun y w1 a1 q1 q2 q3 q4 => by
            show Exit.inBlock id Q (.exit i) a1 w1
            simp only [Exit.inBlock]
            rw [if_pos hi]
            exact hQ y w1 a1 q1 q2 q3 q4), no_loop (fun b e => by cases e)⟩
        · rename_i hi
          have hne : i ≠ id := fun e => by subst e; rw [Nat.beq_refl] at hi; cases hi
          exact ⟨.exit i, F1, H1, c1, l1, h1, fun Fc n hW x w a Q hrd hR ha hQ => wpIn_block (h2 Fc n hW x w a _ hrd hR ha fun y w1 a1 q1 q2 q3 q4 => by
            show Exit.inBlock id Q (.exit i) a1 w1
            simp only [Exit.inBlock]
            rw [if_neg hne]
            exact hQ y w1 a1 q1 q2 q3 q4), no_loop (fun b e => by cases e)⟩
      | ret => exact ⟨.ret, F1, H1, c1, l1, h1, fun Fc n hW x w a Q hrd hR ha hQ => wpIn_block (h2 Fc n hW x w a _ hrd hR ha fun y w1 a1 q1 q2 q3 q4 => hQ y w1 a1 q1 q2 q3 q4), no_loop (fun b e => by cases e)⟩
    | loop p =>
      unfold codeK at h
      obtain ⟨e, F1, H1, c1, l1, h1, h2, _⟩ := ih _ _ _ _ _ _ _ _ h
      have done : ∀ e' F2 H2 c2 l2, run (k e' F2) H2 c2 l2 = some out → (∃ m, StretchDoes B rd (fun Fc n Q a w => Code.roundsIn Fc n P p Q m a w) F H e' F2 H2) → ∃ e F' H' c' l', run (k e F') H' c' l' = some out ∧ CodeDoes P B rd (.loop p) F H e F' H' ∧ LoopDoes P B rd (.loop p) F H e F' H' :=
        fun e' F2 H2 c2 l2 hk ⟨m, hm⟩ => ⟨e', F2, H2, c2, l2, hk, fun Fc n hW x w a Q hrd hR ha hQ => wpIn_loop_rounds m (hm Fc n hW x w a Q hrd hR ha hQ), fun b e => by cases e; exact ⟨m, hm⟩⟩
      cases e with
      | normal =>
        dsimp only [thenK] at h1
        obtain ⟨e, F2, H2, c2, l2, h3, _, h5⟩ := ih _ _ _ _ _ _ _ _ h1
        obtain ⟨m, hm⟩ := h5 p rfl
        refine done e F2 H2 c2 l2 h3 ⟨m + 1, fun Fc n hW x w a Q hrd hR ha hQ => ?_⟩
        show Code.roundsIn Fc n P p Q (m + 1) a w
        rw [roundsIn_succ]
        refine h2 Fc n hW x w a _ hrd hR ha fun y w1 a1 q1 q2 q3 q4 => ?_
        exact hm Fc n hW y w1 a1 Q (hrd.le q1) q2 q3 fun z w2 a2 r1 r2 r3 r4 => hQ z w2 a2 (Env.le_trans q1 r1) r2 r3 (q4.trans r4)
      | exit i =>
        refine done (.exit i) F1 H1 c1 l1 h1 ⟨1, fun Fc n hW x w a Q hrd hR ha hQ => ?_⟩
        show Code.roundsIn Fc n P p Q 1 a w
        rw [roundsIn_succ]
        exact h2 Fc n hW x w a _ hrd hR ha fun y w1 a1 q1 q2 q3 q4 => hQ y w1 a1 q1 q2 q3 q4
      | ret =>
        refine done .ret F1 H1 c1 l1 h1 ⟨1, fun Fc n hW x w a Q hrd hR ha hQ => ?_⟩
        show Code.roundsIn Fc n P p Q 1 a w
        rw [roundsIn_succ]
        exact h2 Fc n hW x w a _ hrd hR ha fun y w1 a1 q1 q2 q3 q4 => hQ y w1 a1 q1 q2 q3 q4
    | scope p =>
      unfold codeK at h
      obtain ⟨e, F1, H1, c1, l1, h1, h2, _⟩ := ih _ _ _ _ _ _ _ _ h
      refine ⟨e, F1, H1, c1, l1, h1, fun Fc n hW x w a Q hrd hR ha hQ => wpIn_scope' (h2 Fc n hW x w a _ hrd hR ha fun y w1 a1 q1 q2 q3 q4 => ?_), no_loop (fun b e => by cases e)⟩
      cases e <;> exact hQ y w1 a1 q1 q2 q3 q4
    | rangeFunc g ps asg bd =>
      unfold codeK at h
      dsimp only [rangeOpK] at h
      rw [evK_eq] at h
      cases rd with
      | none =>
        dsimp only at h
        obtain ⟨hc, hf, l1, h1⟩ := newC_got h
        obtain ⟨e, H', c', l', h2, h3⟩ := range_got (P := P) (B := B) hfun h1
        refine ⟨e, _, H', c', l', h2, fun Fc n hW x w a Q hrd hR ha hQ => ?_, no_loop (fun b e => by cases e)⟩
        obtain ⟨y, y1, y2, y3⟩ := hR.newC (w' := w.alloc (.deferred (some []))) (d := .dfr) hc hf (fun k hk => Below.heap_alloc w _ k hk) (by simp) 0 (fun y _ => World.alloc_heap_new w _)
        refine wpIn_rangeFunc fun fn _ => ?_
        obtain ⟨gf, caps, w2, g1, g2, g3, g4⟩ := h3 Fc n hW y _ _ a _ Q { a with defers := [{ target := .collected w.heap.size, args := #[] }] ++ a.defers } fn y3 y2 (ha.le y1) ((ha.eval g).le y1) fun z w' z1 z2 z3 => hQ z w' _ (Env.le_trans y1 z1) z2 ⟨.cons (z1 _ _ y2) (ha.dfr.le (Env.le_trans y1 z1)), ⟨ha.tm.size, fun i => (ha.tm.ev i).le (Env.le_trans y1 z1)⟩⟩ (((Below.refl B w).alloc hR.base _).trans z3)
        rw [World.size_alloc] at g2 g4
        refine ⟨w.heap.size + 1, [{ target := .collected w.heap.size, args := #[] }], w2, _, w2, gf, _, w2, ?_, resolve_range _ g1 w2, fun f' _ => hW.fn f', ?_, fun e => (by rw [hW.dep] at e; cases e), hW.call _ _ _ _ _ _ g4⟩
        · have hr : Fc.round = none := hrd
          rw [hr, run_enterLoop_outer, g3]
        · simpa [invoke] using g2
      | some ln =>
        dsimp only at h
        obtain ⟨cell, l1, hg, h1⟩ := getC_got h
        clear h
        split at h1
        · rename_i q
          obtain ⟨e, H', c', l', h2, h3⟩ := range_got (P := P) (B := B) hfun h1
          refine ⟨e, _, H', c', l', h2, fun Fc n hW x w a Q hrd hR ha hQ => ?_, no_loop (fun b e => by cases e)⟩
          obtain ⟨L, hL, hro⟩ := hrd
          obtain ⟨hBL, r, hr, hri⟩ := hR.loopAt hg hL
          obtain ⟨D, hD, hDb⟩ := hri.dfr
          refine wpIn_rangeFunc fun fn _ => ?_
          obtain ⟨gf, caps, w2, g1, g2, g3, g4⟩ := h3 Fc n hW x w D a _ Q { a with defers := [] ++ a.defers } fn hR hD ha (ha.eval g) fun z w' z1 z2 z3 => hQ z w' _ z1 z2 (ha.le z1) z3
          refine ⟨w.heap.size, [], w2, _, w2, gf, _, w2, ?_, resolve_range _ g1 w2, fun f' _ => hW.fn f', ?_, fun e => (by rw [hW.dep] at e; cases e), hW.call _ _ _ _ _ _ g4⟩
          · rw [hro, run_enterLoop_inner hr, g3, hDb]
          · simpa [invoke] using g2
        · exact (not_fail h1).elim
    | _ => unfold codeK at h; exact (not_fail h).elim
/-- What is reckoned out of an empty heap, in any world. -/
theorem reckon_calls {X : FuncId → Option (List MV → (MV → Prg) → Prg)} (hX : ∀ B, StandOk P B X) (hm : P.follows .mixedOrders = true) (hN : ∀ (f : Nat) (fn : Func), P.funcs[f]? = some fn → (fn.name == "runtime.NumGoroutine") = false) {fuel : Nat} {f : FuncId} {v : Value} {H' : Heap} {c' : Nat} {l' : Log}
    (h : reckon P X fuel f = some (.v v, H', c', l')) (w : World) : Calls P f #[] w fun e w' => e = .returned v ∧ Below w.heap.size w w' := by
  obtain ⟨m, H1, c1, l1, h1, h2⟩ := fun_got (hX w.heap.size) hN (code_got (hX w.heap.size) hm hN fuel) _ _ _ _ _ _ _ h
  have hm' : m = .v v := by
    simp only [run, Option.some.injEq, Prod.mk.injEq] at h1
    exact h1.1
  subst hm'
  have hR : Rel w.heap.size (fun _ => none) .nil w := ⟨fun n r hn => (by rw [T.get_nil] at hn; cases hn), fun n m r r' L L' hn => (by rw [T.get_nil] at hn; cases hn), fun n L hn => (by cases hn), Nat.le_refl _⟩
  refine (h2 _ w [] hR .nil).2.mono fun e w' ⟨u, he, y, _, _, hr, hB⟩ => ?_
  rw [hr.v_eq] at he
  exact ⟨he, hB⟩
/-- The same, of a test. -/
def isTrue : Option (MV × Heap × Nat × Log) → Bool
  | some (.v (.bool true), _, _, _) => true
  | _ => false
theorem reckon_true {X : FuncId → Option (List MV → (MV → Prg) → Prg)} (hX : ∀ B, StandOk P B X) (hm : P.follows .mixedOrders = true) (hN : ∀ (f : Nat) (fn : Func), P.funcs[f]? = some fn → (fn.name == "runtime.NumGoroutine") = false) {fuel : Nat} {f : FuncId} (h : isTrue (reckon P X fuel f) = true) (w : World) :
    Calls P f #[] w fun e w' => e = .returned (.bool true) ∧ Below w.heap.size w w' := by
  unfold isTrue at h
  split at h
  · rename_i e
    exact reckon_calls hX hm hN e w
  · cases h
/-- No stand-ins. -/
def noX : FuncId → Option (List MV → (MV → Prg) → Prg) := fun _ => none
theorem noX_ok (P : Program) (B : Nat) : StandOk P B noX := fun f g h => by cases h
end Go.Proofs.YtoldgjieplblpaaGreat.Mini
