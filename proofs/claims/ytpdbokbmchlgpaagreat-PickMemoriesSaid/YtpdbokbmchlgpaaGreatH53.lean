/- Packed of several texts. -/
import Derived.Test.YtpdbokbmchlgpaaGreatH52
import Derived.LoopNIn
import Derived.Test.YtpdbokbmchlgpaaGreatProg
import Derived.KernelRfl
import Derived.Test.YtpdbokbmchlgpaaGreatH40
import Derived.Test.YtpdbokbmchlgpaaGreatH31
namespace Go.Proofs.YtpdbokbmchlgpaaGreat.Mini
open Go.RowKit

variable {P : Program} {B : Nat}
theorem no_loop {rd : Option Nat} {c : Code} {F F' : Fr} {H H' : Heap} {e : Ex} (h : ∀ b, c ≠ .loop b) : LoopDoes P B rd c F H e F' H' := fun b e => absurd e (h b)
theorem code_got {X : FuncId → Option (List MV → (MV → Prg) → Prg)} (hX : StandOk P B X) (hm : P.follows .mixedOrders = true) (hN : ∀ (f : Nat) (fn : Func), P.funcs[f]? = some fn → (fn.name == "runtime.NumGoroutine") = false) : ∀ fuel, CodeOk P B (codeK P X fuel)
  | 0 => fun rd c F k H cn l out h => by unfold codeK at h; exact (not_fail h).elim
  | fuel + 1 => by
    have ih := code_got hX hm hN fuel
    have hcall := callK_got hX hN ih
    have hfun := fun_got hX hN ih
    intro rd c F k H cn l out h
    cases c with
    | skip =>
      unfold codeK at h
      exact ⟨.normal, F, H, cn, l, h, fun Fc n hW x w a Q hrd hR ha hQ => wpIn_skip (hQ x w a (Env.le_refl x) hR ha (Below.refl B w)), no_loop (fun b e => by cases e)⟩
    | label i =>
      unfold codeK at h
      exact ⟨.normal, F, H, cn, l, h, fun Fc n hW x w a Q hrd hR ha hQ => wpIn_label (hQ x w a (Env.le_refl x) hR ha (Below.refl B w)), no_loop (fun b e => by cases e)⟩
    | exit i =>
      unfold codeK at h
      exact ⟨.exit i, F, H, cn, l, h, fun Fc n hW x w a Q hrd hR ha hQ => wpIn_exit (hQ x w a (Env.le_refl x) hR ha (Below.refl B w)), no_loop (fun b e => by cases e)⟩
    | ret =>
      unfold codeK at h
      exact ⟨.ret, F, H, cn, l, h, fun Fc n hW x w a Q hrd hR ha hQ => wpIn_ret (hQ x w a (Env.le_refl x) hR ha (Below.refl B w)), no_loop (fun b e => by cases e)⟩
    | region id ops d =>
      unfold codeK at h
      dsimp only [regionK] at h
      cases d with
      | false =>
        dsimp only at h
        obtain ⟨F', H', c', l', h1, h2⟩ := reg_got hcall ops _ _ _ _ _ _ _ h
        exact ⟨.normal, F', H', c', l', h1, fun Fc n hW x w a Q hrd hR ha hQ => wpIn_region_list (h2 Fc n hW x w a Q hR ha hQ), no_loop (fun b e => by cases e)⟩
      | true =>
        dsimp only at h
        split at h
        · rename_i hs
          obtain ⟨items, F', H', c', l', h1, h2, h3, h4⟩ := regD_ran _ _ _ _ _ _ _ _ _ h
          rw [List.append_nil] at h1
          dsimp only at h1
          split at h1
          · rename_i hl
            have hrem := rem_start hs hl h3 h4
            have hlen : items.length = ops.size := by
              have := congrArg List.length h3
              simpa using this
            refine ⟨.normal, F', H', c', l', h1, fun Fc n hW x w a Q hrd hR ha hQ => wpIn_region_any hm ?_, no_loop (fun b e => by cases e)⟩
            exact ran_any hcall (static_spec hs).1 hW ops.size items _ F H x a _ Q hlen hrem h2 (hR.same rfl) ha fun y w' a' q1 q2 q3 q4 => hQ y w' a' q1 q2 q3 ((Below.refl B w).drew.trans q4)
          · exact (not_fail h1).elim
        · exact (not_fail h).elim
    | seq p q =>
      unfold codeK at h
      obtain ⟨e, F1, H1, c1, l1, h1, h2, _⟩ := ih _ _ _ _ _ _ _ _ h
      cases e with
      | normal =>
        dsimp only [thenK] at h1
        obtain ⟨e, F2, H2, c2, l2, h3, h4, _⟩ := ih _ _ _ _ _ _ _ _ h1
        refine ⟨e, F2, H2, c2, l2, h3, fun Fc n hW x w a Q hrd hR ha hQ => wpIn_seq ?_, no_loop (fun b e => by cases e)⟩
        refine h2 Fc n hW x w a _ hrd hR ha fun y w1 a1 q1 q2 q3 q4 => ?_
        exact h4 Fc n hW y w1 a1 Q (hrd.le q1) q2 q3 fun z w2 a2 r1 r2 r3 r4 => hQ z w2 a2 (Env.le_trans q1 r1) r2 r3 (q4.trans r4)
      | exit i => exact ⟨.exit i, F1, H1, c1, l1, h1, fun Fc n hW x w a Q hrd hR ha hQ => wpIn_seq (h2 Fc n hW x w a _ hrd hR ha fun y w1 a1 q1 q2 q3 q4 => hQ y w1 a1 q1 q2 q3 q4), no_loop (fun b e => by cases e)⟩
      | ret => exact ⟨.ret, F1, H1, c1, l1, h1, fun Fc n hW x w a Q hrd hR ha hQ => wpIn_seq (h2 Fc n hW x w a _ hrd hR ha fun y w1 a1 q1 q2 q3 q4 => hQ y w1 a1 q1 q2 q3 q4), no_loop (fun b e => by cases e)⟩
    | cond y p q =>
      unfold codeK at h
      dsimp only [condK] at h
      rw [evK_eq] at h
      split at h
      · rename_i ey
        obtain ⟨e, F1, H1, c1, l1, h1, h2, _⟩ := ih _ _ _ _ _ _ _ _ h
        refine ⟨e, F1, H1, c1, l1, h1, fun Fc n hW x w a Q hrd hR ha hQ => wpIn_cond_true ?_ (h2 Fc n hW x w a Q hrd hR ha hQ), no_loop (fun b e => by cases e)⟩
        have := ha.eval y
        rw [ey] at this
        exact this.v_eq
      · rename_i ey
        obtain ⟨e, F1, H1, c1, l1, h1, h2, _⟩ := ih _ _ _ _ _ _ _ _ h
        refine ⟨e, F1, H1, c1, l1, h1, fun Fc n hW x w a Q hrd hR ha hQ => wpIn_cond_false ?_ (h2 Fc n hW x w a Q hrd hR ha hQ), no_loop (fun b e => by cases e)⟩
        have := ha.eval y
        rw [ey] at this
        exact this.v_eq
      · exact (not_fail h).elim
    | block id p =>
      unfold codeK at h
      obtain ⟨e, F1, H1, c1, l1, h1, h2, _⟩ := ih _ _ _ _ _ _ _ _ h
      cases e with
      | normal => exact ⟨.normal, F1, H1, c1, l1, h1, fun Fc n hW x w a Q hrd hR ha hQ => wpIn_block (h2 Fc n hW x w a _ hrd hR ha fun y w1 a1 q1 q2 q3 q4 => hQ y w1 a1 q1 q2 q3 q4), no_loop (fun b e => by cases e)⟩
      | exit i =>
        dsimp only [endBlockK] at h1
        split at h1
        · rename_i hi
          have hi := beq_eq hi
          exact ⟨.normal, F1, H1, c1, l1, h1, fun Fc n hW x w a Q hrd hR ha hQ => wpIn_block (h2 Fc n hW x w a _ hrd hR ha fun y w1 a1 q1 q2 q3 q4 => by
            show Exit.inBlock id Q (.exit i) a1 w1
            simp only [Exit.inBlock]
            rw [if_pos hi]
            exact hQ y w1 a1 q1 q2 q3 q4), no_loop (fun b e => by cases e)⟩
        · rename_i hi
          have hne : i ≠ id := fun e => by subst e; rw [Nat.beq_refl] at hi; cases hi
          exact ⟨.exit i, F1, H1, c1, l1, h1, fun Fc n hW x w a Q hrd hR ha hQ => wpIn_block (h2 Fc n hW x w a _ hrd hR ha fun y w1 a1 q1 q2 q3 q4 => by
            show Exit.inBlock id Q (.exit i) a1 w1
            simp only [Exit.inBlock]
            rw [if_neg hne]
            exact hQ y w1 a1 q1 q2 q3 q4), no_loop (fun b e => by cases e)⟩
      | ret => exact ⟨.ret, F1, H1, c1, l1, h1, fun Fc n hW x w a Q hrd hR ha hQ => wpIn_block (h2 Fc n hW x w a _ hrd hR ha fun y w1 a1 q1 q2 q3 q4 => hQ y w1 a1 q1 q2 q3 q4), no_loop (fun b e => by cases e)⟩
    | loop p =>
      unfold codeK at h
      obtain ⟨e, F1, H1, c1, l1, h1, h2, _⟩ := ih _ _ _ _ _ _ _ _ h
      have done : ∀ e' F2 H2 c2 l2, run (k e' F2) H2 c2 l2 = some out → (∃ m, StretchDoes B rd (fun Fc n Q a w => Code.roundsIn Fc n P p Q m a w) F H e' F2 H2) → ∃ e F' H' c' l', run (k e F') H' c' l' = some out ∧ CodeDoes P B rd (.loop p) F H e F' H' ∧ LoopDoes P B rd (.loop p) F H e F' H' :=
        fun e' F2 H2 c2 l2 hk ⟨m, hm⟩ => ⟨e', F2, H2, c2, l2, hk, fun Fc n hW x w a Q hrd hR ha hQ => wpIn_loop_rounds m (hm Fc n hW x w a Q hrd hR ha hQ), fun b e => by cases e; exact ⟨m, hm⟩⟩
      cases e with
      | normal =>
        dsimp only [thenK] at h1
        obtain ⟨e, F2, H2, c2, l2, h3, _, h5⟩ := ih _ _ _ _ _ _ _ _ h1
        obtain ⟨m, hm⟩ := h5 p rfl
        refine done e F2 H2 c2 l2 h3 ⟨m + 1, fun Fc n hW x w a Q hrd hR ha hQ => ?_⟩
        show Code.roundsIn Fc n P p Q (m + 1) a w
        rw [roundsIn_succ]
        refine h2 Fc n hW x w a _ hrd hR ha fun y w1 a1 q1 q2 q3 q4 => ?_
        exact hm Fc n hW y w1 a1 Q (hrd.le q1) q2 q3 fun z w2 a2 r1 r2 r3 r4 => hQ z w2 a2 (Env.le_trans q1 r1) r2 r3 (q4.trans r4)
      | exit i =>
        refine done (.exit i) F1 H1 c1 l1 h1 ⟨1, fun Fc n hW x w a Q hrd hR ha hQ => ?_⟩
        show Code.roundsIn Fc n P p Q 1 a w
        rw [roundsIn_succ]
        exact h2 Fc n hW x w a _ hrd hR ha fun y w1 a1 q1 q2 q3 q4 => hQ y w1 a1 q1 q2 q3 q4
      | ret =>
        refine done .ret F1 H1 c1 l1 h1 ⟨1, fun Fc n hW x w a Q hrd hR ha hQ => ?_⟩
        show Code.roundsIn Fc n P p Q 1 a w
        rw [roundsIn_succ]
        exact h2 Fc n hW x w a _ hrd hR ha fun y w1 a1 q1 q2 q3 q4 => hQ y w1 a1 q1 q2 q3 q4
    | scope p =>
      unfold codeK at h
      obtain ⟨e, F1, H1, c1, l1, h1, h2, _⟩ := ih _ _ _ _ _ _ _ _ h
      refine ⟨e, F1, H1, c1, l1, h1, fun Fc n hW x w a Q hrd hR ha hQ => wpIn_scope' (h2 Fc n hW x w a _ hrd hR ha fun y w1 a1 q1 q2 q3 q4 => ?_), no_loop (fun b e => by cases e)⟩
      cases e <;> exact hQ y w1 a1 q1 q2 q3 q4
    | rangeFunc g ps asg bd =>
      unfold codeK at h
      dsimp only [rangeOpK] at h
      rw [evK_eq] at h
      cases rd with
      | none =>
        dsimp only at h
        obtain ⟨hc, hf, l1, h1⟩ := newC_got h
        obtain ⟨e, H', c', l', h2, h3⟩ := range_got (P := P) (B := B) hfun h1
        refine ⟨e, _, H', c', l', h2, fun Fc n hW x w a Q hrd hR ha hQ => ?_, no_loop (fun b e => by cases e)⟩
        obtain ⟨y, y1, y2, y3⟩ := hR.newC (w' := w.alloc (.deferred (some []))) (d := .dfr) hc hf (fun k hk => Below.heap_alloc w _ k hk) (by simp) 0 (fun y _ => World.alloc_heap_new w _)
        refine wpIn_rangeFunc fun fn _ => ?_
        obtain ⟨gf, caps, w2, g1, g2, g3, g4⟩ := h3 Fc n hW y _ _ a _ Q { a with defers := [{ target := .collected w.heap.size, args := #[] }] ++ a.defers } fn y3 y2 (ha.le y1) ((ha.eval g).le y1) fun z w' z1 z2 z3 => hQ z w' _ (Env.le_trans y1 z1) z2 ⟨.cons (z1 _ _ y2) (ha.dfr.le (Env.le_trans y1 z1)), ⟨ha.tm.size, fun i => (ha.tm.ev i).le (Env.le_trans y1 z1)⟩⟩ (((Below.refl B w).alloc hR.base _).trans z3)
        rw [World.size_alloc] at g2 g4
        refine ⟨w.heap.size + 1, [{ target := .collected w.heap.size, args := #[] }], w2, _, w2, gf, _, w2, ?_, resolve_range _ g1 w2, fun f' _ => hW.fn f', ?_, fun e => (by rw [hW.dep] at e; cases e), hW.call _ _ _ _ _ _ g4⟩
        · have hr : Fc.round = none := hrd
          rw [hr, run_enterLoop_outer, g3]
        · simpa [invoke] using g2
      | some ln =>
        dsimp only at h
        obtain ⟨cell, l1, hg, h1⟩ := getC_got h
        clear h
        split at h1
        · rename_i q
          obtain ⟨e, H', c', l', h2, h3⟩ := range_got (P := P) (B := B) hfun h1
          refine ⟨e, _, H', c', l', h2, fun Fc n hW x w a Q hrd hR ha hQ => ?_, no_loop (fun b e => by cases e)⟩
          obtain ⟨L, hL, hro⟩ := hrd
          obtain ⟨hBL, r, hr, hri⟩ := hR.loopAt hg hL
          obtain ⟨D, hD, hDb⟩ := hri.dfr
          refine wpIn_rangeFunc fun fn _ => ?_
          obtain ⟨gf, caps, w2, g1, g2, g3, g4⟩ := h3 Fc n hW x w D a _ Q { a with defers := [] ++ a.defers } fn hR hD ha (ha.eval g) fun z w' z1 z2 z3 => hQ z w' _ z1 z2 (ha.le z1) z3
          refine ⟨w.heap.size, [], w2, _, w2, gf, _, w2, ?_, resolve_range _ g1 w2, fun f' _ => hW.fn f', ?_, fun e => (by rw [hW.dep] at e; cases e), hW.call _ _ _ _ _ _ g4⟩
          · rw [hro, run_enterLoop_inner hr, g3, hDb]
          · simpa [invoke] using g2
        · exact (not_fail h1).elim
    | _ => unfold codeK at h; exact (not_fail h).elim
/-- What is reckoned out of an empty heap, in any world. -/
theorem reckon_calls {X : FuncId → Option (List MV → (MV → Prg) → Prg)} (hX : ∀ B, StandOk P B X) (hm : P.follows .mixedOrders = true) (hN : ∀ (f : Nat) (fn : Func), P.funcs[f]? = some fn → (fn.name == "runtime.NumGoroutine") = false) {fuel : Nat} {f : FuncId} {v : Value} {H' : Heap} {c' : Nat} {l' : Log}
    (h : reckon P X fuel f = some (.v v, H', c', l')) (w : World) : Calls P f #[] w fun e w' => e = .returned v ∧ Below w.heap.size w w' := by
  obtain ⟨m, H1, c1, l1, h1, h2⟩ := fun_got (hX w.heap.size) hN (code_got (hX w.heap.size) hm hN fuel) _ _ _ _ _ _ _ h
  have hm' : m = .v v := by
    simp only [run, Option.some.injEq, Prod.mk.injEq] at h1
    exact h1.1
  subst hm'
  have hR : Rel w.heap.size (fun _ => none) .nil w := ⟨fun n r hn => (by rw [T.get_nil] at hn; cases hn), fun n m r r' L L' hn => (by rw [T.get_nil] at hn; cases hn), fun n L hn => (by cases hn), Nat.le_refl _⟩
  refine (h2 _ w [] hR .nil).2.mono fun e w' ⟨u, he, y, _, _, hr, hB⟩ => ?_
  rw [hr.v_eq] at he
  exact ⟨he, hB⟩
/-- The same, of a test. -/
def isTrue : Option (MV × Heap × Nat × Log) → Bool
  | some (.v (.bool true), _, _, _) => true
  | _ => false
theorem reckon_true {X : FuncId → Option (List MV → (MV → Prg) → Prg)} (hX : ∀ B, StandOk P B X) (hm : P.follows .mixedOrders = true) (hN : ∀ (f : Nat) (fn : Func), P.funcs[f]? = some fn → (fn.name == "runtime.NumGoroutine") = false) {fuel : Nat} {f : FuncId} (h : isTrue (reckon P X fuel f) = true) (w : World) :
    Calls P f #[] w fun e w' => e = .returned (.bool true) ∧ Below w.heap.size w w' := by
  unfold isTrue at h
  split at h
  · rename_i e
    exact reckon_calls hX hm hN e w
  · cases h
/-- No stand-ins. -/
def noX : FuncId → Option (List MV → (MV → Prg) → Prg) := fun _ => none
theorem noX_ok (P : Program) (B : Nat) : StandOk P B noX := fun f g h => by cases h
end Go.Proofs.YtpdbokbmchlgpaaGreat.Mini
namespace Go.Proofs.YtpdbokbmchlgpaaGreat.Mini

theorem no_count : ∀ (f : Nat) (fn : Func), Tryz.prog.funcs[f]? = some fn → (fn.name == "runtime.NumGoroutine") = false := by
  have h : (Tryz.prog.funcs.all fun fn => !(fn.name == "runtime.NumGoroutine")) = true := by kernel_rfl
  intro f fn hf
  have := Array.all_eq_true_iff_forall_mem.1 h fn (Array.mem_of_getElem? hf)
  simpa using this
set_option maxRecDepth 1000000 in
theorem known_reckoned : isTrue (reckon Tryz.prog noX 100000 8) = true := by kernel_rfl
theorem known_true (w : World) : Calls Tryz.prog 8 #[] w fun e w' => e = .returned (.bool true) ∧ RowKit.Below w.heap.size w w' :=
  reckon_true (noX_ok _) (by kernel_rfl) no_count known_reckoned w
end Go.Proofs.YtpdbokbmchlgpaaGreat.Mini
namespace Go.Proofs.YtpdbokbmchlgpaaGreat.PK
open Go.RowKit

theorem known20 (w : World) : Calls Tryz.prog 8 #[] w fun e w' => e = .returned (.bool true) ∧ Below w.heap.size w w' := Mini.known_true w
theorem MemPost.str {F : Fun} {l : List Int} {ls : List (List Int)} {w w' : World} {e : Ending} (h : MemPost F l ls w e w') :
    ∃ a c, e = .returned (.tuple #[.slice a (memF F l ls).length c, .int .i64 (inE F l ls)]) ∧ (∀ u, Below w'.heap.size w' u → (convert 33 9 (.slice a (memF F l ls).length c)).run Tryz.prog u = .ok (.string (strOfNums (memF F l ls))) u) ∧ Below w.heap.size w w' := by
  obtain ⟨a, c, he, hb, hw⟩ := h
  refine ⟨a, c, he, fun u hu => ?_, hw⟩
  cases a with
  | some ad => exact conv_mem c (hb.below hu)
  | none =>
    have : memF F l ls = [] := by
      cases hm : memF F l ls with
      | nil => rfl
      | cons x xs =>
        obtain ⟨b, o, e, _⟩ := hb 0 (by rw [hm]; simp)
        cases e
    rw [this]
    exact run_convert_bytes_nil u 33 5 Tryz.underlying33 Tryz.underlying5 0 c 9 Tryz.underlying9
set_option maxRecDepth 100000 in
set_option maxHeartbeats 2000000 in
theorem pickMemories_any (F : Fun) (A : FunA) (l : List Int) (ls : List (List Int)) (a b : Option Addr) (c e : Nat) (w : World) (hin : FunIn w F A) (hbd : FunBd F) (hl : WsIn w a l) (hls : RowsIn w b ls) (hw : ∀ k, k < l.length → isW (l.getD k 0))
    (h1 : l.length ≤ maxLen) (h2 : ls.length ≤ maxLen) (h3 : ∀ k, k < ls.length → (ls.getD k []).length ≤ maxLen) :
    Calls Tryz.prog 3 #[funV F A, inV l ls a b c e] w fun e w' => e = .returned (.bool true) ∧ Below w.heap.size w w' := by
  obtain ⟨pa, pc, sa, sc, ba, bc⟩ := A
  have hal : Below w.heap.size w ((w.alloc (.cells #[.slice pa F.ps.length pc, .int .i64 F.ret, .slice sa F.sl.length sc, .slice ba F.bs.length bc] 25)).alloc (.cells #[.slice a l.length c, .slice b ls.length e] 29)) := ((Below.refl _ _).alloc (Nat.le_refl _) _).alloc (by simp) _
  have hr1 : ((w.alloc (.cells #[.slice pa F.ps.length pc, .int .i64 F.ret, .slice sa F.sl.length sc, .slice ba F.bs.length bc] 25)).alloc (.cells #[.slice a l.length c, .slice b ls.length e] 29)).heap[w.heap.size + 1]? = some ((.cells #[.slice a l.length c, .slice b ls.length e] 29) : Obj) := by
    have := heap_alloc_new (w.alloc (.cells #[.slice pa F.ps.length pc, .int .i64 F.ret, .slice sa F.sl.length sc, .slice ba F.bs.length bc] 25)) (.cells #[.slice a l.length c, .slice b ls.length e] 29)
    simpa using this
  have hr0 : ((w.alloc (.cells #[.slice pa F.ps.length pc, .int .i64 F.ret, .slice sa F.sl.length sc, .slice ba F.bs.length bc] 25)).alloc (.cells #[.slice a l.length c, .slice b ls.length e] 29)).heap[w.heap.size]? = some ((.cells #[.slice pa F.ps.length pc, .int .i64 F.ret, .slice sa F.sl.length sc, .slice ba F.bs.length bc] 25) : Obj) := by
    rw [Below.heap_alloc _ _ _ (by simp)]
    exact heap_alloc_new _ _
  have HB0 := Lib.hid hal
  have g0 := cell_of_row _ _ 0 _ _ _ hr0; have g1 := cell_of_row _ _ 1 _ _ _ hr0; have g2 := cell_of_row _ _ 2 _ _ _ hr0; have g3 := cell_of_row _ _ 3 _ _ _ hr0
  have i0 := cell_of_row _ _ 0 _ _ _ hr1; have i1 := cell_of_row _ _ 1 _ _ _ hr1
  have G0 := Lib.hid g0; have G1 := Lib.hid g1; have G2 := Lib.hid g2; have G3 := Lib.hid g3; have I0 := Lib.hid i0; have I1 := Lib.hid i1
  have HL := Lib.hid (fun u (h : Below w.heap.size w u) => Long_any F ⟨pa, pc, sa, sc, ba, bc⟩ u (hin.below h) hbd)
  have HWd := Lib.hid (fun u (h : Below w.heap.size w u) => Wide_any l ls a b c e u (hls.below h) h1 h2 h3)
  have HP := Lib.hid (fun u (h : Below w.heap.size w u) (hs : FunSm F) (hi : InSm l ls) => Memory_pick_any F ⟨pa, pc, sa, sc, ba, bc⟩ l ls a b c e u (hin.below h) (hbd.ok hs) (hl.below h) (hls.below h) hw hi)
  have HR := Lib.hid (fun u (h : Below w.heap.size w u) (hs : FunSm F) (hi : InSm l ls) => Memory_ref_any F ⟨pa, pc, sa, sc, ba, bc⟩ l ls a b c e u (hin.below h) (hbd.ok hs) (hl.below h) (hls.below h) hw hi)
  have HK := Lib.hid known20
  have HMs := Lib.hid (fun u e w' (h : MemPost F l ls u e w') => h.str)
  simp only [funV, funC, inV] at HL HWd HP HR ⊢
  generalize strOfNums (memF F l ls) = SM at *
  generalize (memF F l ls).length = nf at *
  generalize MemPost F l ls = PP at *
  generalize inE F l ls = R at *
  clear hin hal hr0 hr1 hbd hl hls hw h1 h2 h3
  generalize l.length = nl at *
  generalize ls.length = nm at *
  go_enter Tryz.func3, Tryz.ntmps3
  go_upto_region 1 with fail
  generalize ((w.alloc _).alloc _) = w1 at *
  have HL1 := Lib.hid (HL.out w1 HB0.out)
  go_wp2_with fail
  refine HL1.out.mono ?_; rintro e w2 ⟨⟨t, rfl, ht⟩, hb2⟩
  have HT := Lib.hid ht; clear ht
  have HB2 := Lib.hid (HB0.out.trans (hb2.mono HB0.out.size))
  clear g0 g1 g2 g3 i0 i1
  have g0 := keep G0.out hb2; have g1 := keep G1.out hb2; have g2 := keep G2.out hb2; have g3 := keep G3.out hb2; have i0 := keep I0.out hb2; have i1 := keep I1.out hb2
  clear G0 G1 G2 G3 I0 I1
  have G0 := Lib.hid g0; have G1 := Lib.hid g1; have G2 := Lib.hid g2; have G3 := Lib.hid g3; have I0 := Lib.hid i0; have I1 := Lib.hid i1
  clear hb2
  cases t
  rotate_left
  · clear g0 g1 g2 g3 i0 i1
    go_wp2_with fail
    refine (HK.out _).mono ?_; rintro e w3 ⟨rfl, hb3⟩
    have HX := Lib.hid (HB2.out.trans (hb3.mono HB2.out.size))
    clear hb3
    go_wp2_with fail
    go_ret
    exact ⟨rfl, HX.out⟩
  have HSm : Hid (FunSm F) := Lib.hid (by by_cases h : FunSm F; exact h; exact absurd (HT.out.2 h) (by simp))
  have HW1 := Lib.hid (HWd.out w2 HB2.out)
  go_wp2_with fail
  refine HW1.out.mono ?_; rintro e w3 ⟨⟨t, rfl, ht⟩, hb3⟩
  clear HT
  have HT := Lib.hid ht; clear ht
  have HB3 := Lib.hid (HB2.out.trans (hb3.mono HB2.out.size))
  clear g0 g1 g2 g3 i0 i1
  have g0 := keep G0.out hb3; have g1 := keep G1.out hb3; have g2 := keep G2.out hb3; have g3 := keep G3.out hb3; have i0 := keep I0.out hb3; have i1 := keep I1.out hb3
  clear G0 G1 G2 G3 I0 I1
  have G0 := Lib.hid g0; have G1 := Lib.hid g1; have G2 := Lib.hid g2; have G3 := Lib.hid g3; have I0 := Lib.hid i0; have I1 := Lib.hid i1
  clear hb3
  cases t
  rotate_left
  · clear g0 g1 g2 g3 i0 i1
    go_wp2_with fail
    refine (HK.out _).mono ?_; rintro e w4 ⟨rfl, hb4⟩
    have HX := Lib.hid (HB3.out.trans (hb4.mono HB3.out.size))
    clear hb4
    go_wp2_with fail
    go_ret
    exact ⟨rfl, HX.out⟩
  have HIm : Hid (InSm l ls) := Lib.hid (by by_cases h : InSm l ls; exact h; exact absurd (HT.out.2 h) (by simp))
  have HP1 := Lib.hid (HP.out w3 HB3.out HSm.out HIm.out)
  go_wp2_with fail
  refine HP1.out.mono ?_; rintro e w4 hp4
  obtain ⟨a4, c4, rfl, cv4, hb4⟩ := HMs.out _ _ _ hp4
  have HCv := Lib.hid cv4
  have HB4 := Lib.hid (HB3.out.trans (hb4.mono HB3.out.size))
  clear g0 g1 g2 g3 i0 i1 hp4 cv4
  have g0 := keep G0.out hb4; have g1 := keep G1.out hb4; have g2 := keep G2.out hb4; have g3 := keep G3.out hb4; have i0 := keep I0.out hb4; have i1 := keep I1.out hb4
  clear hb4
  have HR1 := Lib.hid (HR.out w4 HB4.out HSm.out HIm.out)
  go_wp2_with fail
  refine HR1.out.mono ?_; rintro e w5 hp5
  obtain ⟨a5, c5, rfl, cv5, hb5⟩ := HMs.out _ _ _ hp5
  have HB5 := Lib.hid (HB4.out.trans (hb5.mono HB4.out.size))
  have cva := HCv.out w5 hb5
  have cvb := cv5 w5 (Below.refl _ _)
  clear g0 g1 g2 g3 i0 i1 hp5 cv5 hb5 HCv
  go_wp2_with fail
  refine (HK.out _).mono ?_; rintro e w6 ⟨rfl, hb6⟩
  have HX := Lib.hid (HB5.out.trans (hb6.mono HB5.out.size))
  clear hb6 cva cvb
  go_wp2_with fail
  go_ret
  exact ⟨by simp, HX.out⟩
end Go.Proofs.YtpdbokbmchlgpaaGreat.PK
