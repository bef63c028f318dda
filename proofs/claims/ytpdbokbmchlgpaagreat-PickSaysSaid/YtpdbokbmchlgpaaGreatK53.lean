/- Packed of several texts. -/
import Derived.Test.YtpdbokbmchlgpaaGreatK52
import Derived.LoopNIn
import Derived.Test.YtpdbokbmchlgpaaGreatProg
import Derived.KernelRfl
import Derived.Test.YtpdbokbmchlgpaaGreatK37
import Derived.Test.YtpdbokbmchlgpaaGreatK31
import Derived.Test.YtpdbokbmchlgpaaGreatK00
import Derived.Test.YtpdbokbmchlgpaaGreatK03
import Derived.Lib.SmallJoins
import Derived.Test.YtpdbokbmchlgpaaGreatK39
import Derived.Test.YtpdbokbmchlgpaaGreatK40
import Derived.StillTailTactics
import Derived.Deep.CutRange
namespace Go.Proofs.YtpdbokbmchlgpaaGreat.Mini
open Go.RowKit

variable {P : Program} {B : Nat}
theorem no_loop {rd : Option Nat} {c : Code} {F F' : Fr} {H H' : Heap} {e : Ex} (h : ∀ b, c ≠ .loop b) : LoopDoes P B rd c F H e F' H' := fun b e => absurd e (h b)
theorem code_got {X : FuncId → Option (List MV → (MV → Prg) → Prg)} (hX : StandOk P B X) (hm : P.follows .mixedOrders = true) (hN : ∀ (f : Nat) (fn : Func), P.funcs[f]? = some fn → (fn.name == "runtime.NumGoroutine") = false) : ∀ fuel, CodeOk P B (codeK P X fuel)
  | 0 => fun rd c F k H cn l out h => by unfold codeK at h; exact (not_fail h).elim
  | fuel + 1 => by
    have ih := code_got hX hm hN fuel
    have hcall := callK_got hX hN ih
    have hfun := fun_got hX hN ih
    intro rd c F k H cn l out h
    cases c with
    | skip =>
      unfold codeK at h
      exact ⟨.normal, F, H, cn, l, h, fun Fc n hW x w a Q hrd hR ha hQ => wpIn_skip (hQ x w a (Env.le_refl x) hR ha (Below.refl B w)), no_loop (fun b e => by cases e)⟩
    | label i =>
      unfold codeK at h
      exact ⟨.normal, F, H, cn, l, h, fun Fc n hW x w a Q hrd hR ha hQ => wpIn_label (hQ x w a (Env.le_refl x) hR ha (Below.refl B w)), no_loop (fun b e => by cases e)⟩
    | exit i =>
      unfold codeK at h
      exact ⟨.exit i, F, H, cn, l, h, fun Fc n hW x w a Q hrd hR ha hQ => wpIn_exit (hQ x w a (Env.le_refl x) hR ha (Below.refl B w)), no_loop (fun b e => by cases e)⟩
    | ret =>
      unfold codeK at h
      exact ⟨.ret, F, H, cn, l, h, fun Fc n hW x w a Q hrd hR ha hQ => wpIn_ret (hQ x w a (Env.le_refl x) hR ha (Below.refl B w)), no_loop (fun b e => by cases e)⟩
    | region id ops d =>
      unfold codeK at h
      dsimp only [regionK] at h
      cases d with
      | false =>
        dsimp only at h
        obtain ⟨F', H', c', l', h1, h2⟩ := reg_got hcall ops _ _ _ _ _ _ _ h
        exact ⟨.normal, F', H', c', l', h1, fun Fc n hW x w a Q hrd hR ha hQ => wpIn_region_list (h2 Fc n hW x w a Q hR ha hQ), no_loop (fun b e => by cases e)⟩
      | true =>
        dsimp only at h
        split at h
        · rename_i hs
          obtain ⟨items, F', H', c', l', h1, h2, h3, h4⟩ := regD_ran _ _ _ _ _ _ _ _ _ h
          rw [List.append_nil] at h1
          dsimp only at h1
          split at h1
          · rename_i hl
            have hrem := rem_start hs hl h3 h4
            have hlen : items.length = ops.size := by
              have := congrArg List.length h3
              simpa using this
            refine ⟨.normal, F', H', c', l', h1, fun Fc n hW x w a Q hrd hR ha hQ => wpIn_region_any hm ?_, no_loop (fun b e => by cases e)⟩
            exact ran_any hcall (static_spec hs).1 hW ops.size items _ F H x a _ Q hlen hrem h2 (hR.same rfl) ha fun y w' a' q1 q2 q3 q4 => hQ y w' a' q1 q2 q3 ((Below.refl B w).drew.trans q4)
          · exact (not_fail h1).elim
        · exact (not_fail h).elim
    | seq p q =>
      unfold codeK at h
      obtain ⟨e, F1, H1, c1, l1, h1, h2, _⟩ := ih _ _ _ _ _ _ _ _ h
      cases e with
      | normal =>
        dsimp only [thenK] at h1
        obtain ⟨e, F2, H2, c2, l2, h3, h4, _⟩ := ih _ _ _ _ _ _ _ _ h1
        refine ⟨e, F2, H2, c2, l2, h3, fun Fc n hW x w a Q hrd hR ha hQ => wpIn_seq ?_, no_loop (fun b e => by cases e)⟩
        refine h2 Fc n hW x w a _ hrd hR ha fun y w1 a1 q1 q2 q3 q4 => ?_
        exact h4 Fc n hW y w1 a1 Q (hrd.le q1) q2 q3 fun z w2 a2 r1 r2 r3 r4 => hQ z w2 a2 (Env.le_trans q1 r1) r2 r3 (q4.trans r4)
      | exit i => exact ⟨.exit i, F1, H1, c1, l1, h1, fun Fc n hW x w a Q hrd hR ha hQ => wpIn_seq (h2 Fc n hW x w a _ hrd hR ha fun y w1 a1 q1 q2 q3 q4 => hQ y w1 a1 q1 q2 q3 q4), no_loop (fun b e => by cases e)⟩
      | ret => exact ⟨.ret, F1, H1, c1, l1, h1, fun Fc n hW x w a Q hrd hR ha hQ => wpIn_seq (h2 Fc n hW x w a _ hrd hR ha fun y w1 a1 q1 q2 q3 q4 => hQ y w1 a1 q1 q2 q3 q4), no_loop (fun b e => by cases e)⟩
    | cond y p q =>
      unfold codeK at h
      dsimp only [condK] at h
      rw [evK_eq] at h
      split at h
      · rename_i ey
        obtain ⟨e, F1, H1, c1, l1, h1, h2, _⟩ := ih _ _ _ _ _ _ _ _ h
        refine ⟨e, F1, H1, c1, l1, h1, fun Fc n hW x w a Q hrd hR ha hQ => wpIn_cond_true ?_ (h2 Fc n hW x w a Q hrd hR ha hQ), no_loop (fun b e => by cases e)⟩
        have := ha.eval y
        rw [ey] at this
        exact this.v_eq
      · rename_i ey
        obtain ⟨e, F1, H1, c1, l1, h1, h2, _⟩ := ih _ _ _ _ _ _ _ _ h
        refine ⟨e, F1, H1, c1, l1, h1, fun Fc n hW x w a Q hrd hR ha hQ => wpIn_cond_false ?_ (h2 Fc n hW x w a Q hrd hR ha hQ), no_loop (fun b e => by cases e)⟩
        have := ha.eval y
        rw [ey] at this
        exact this.v_eq
      · exact (not_fail h).elim
    | block id p =>
      unfold codeK at h
      obtain ⟨e, F1, H1, c1, l1, h1, h2, _⟩ := ih _ _ _ _ _ _ _ _ h
      cases e with
      | normal => exact ⟨.normal, F1, H1, c1, l1, h1, fun Fc n hW x w a Q hrd hR ha hQ => wpIn_block (h2 Fc n hW x w a _ hrd hR ha fun y w1 a1 q1 q2 q3 q4 => hQ y w1 a1 q1 q2 q3 q4), no_loop (fun b e => by cases e)⟩
      | exit i =>
        dsimp only [endBlockK] at h1
        split at h1
        · rename_i hi
          have hi := beq_eq hi
          exact ⟨.normal, F1, H1, c1, l1, h1, fun Fc n hW x w a Q hrd hR ha hQ => wpIn_block (h2 Fc n hW x w a _ hrd hR ha fun y w1 a1 q1 q2 q3 q4 => by
            show Exit.inBlock id Q (.exit i) a1 w1
            simp only [Exit.inBlock]
            rw [if_pos hi]
            exact hQ y w1 a1 q1 q2 q3 q4), no_loop (fun b e => by cases e)⟩
        · rename_i hi
          have hne : i ≠ id := fun e => by subst e; rw [Nat.beq_refl] at hi; cases hi
          exact ⟨.exit i, F1, H1, c1, l1, h1, fun Fc n hW x w a Q hrd hR ha hQ => wpIn_block (h2 Fc n hW x w a _ hrd hR ha fun y w1 a1 q1 q2 q3 q4 => by
            show Exit.inBlock id Q (.exit i) a1 w1
            simp only [Exit.inBlock]
            rw [if_neg hne]
            exact hQ y w1 a1 q1 q2 q3 q4), no_loop (fun b e => by cases e)⟩
      | ret => exact ⟨.ret, F1, H1, c1, l1, h1, fun Fc n hW x w a Q hrd hR ha hQ => wpIn_block (h2 Fc n hW x w a _ hrd hR ha fun y w1 a1 q1 q2 q3 q4 => hQ y w1 a1 q1 q2 q3 q4), no_loop (fun b e => by cases e)⟩
    | loop p =>
      unfold codeK at h
      obtain ⟨e, F1, H1, c1, l1, h1, h2, _⟩ := ih _ _ _ _ _ _ _ _ h
      have done : ∀ e' F2 H2 c2 l2, run (k e' F2) H2 c2 l2 = some out → (∃ m, StretchDoes B rd (fun Fc n Q a w => Code.roundsIn Fc n P p Q m a w) F H e' F2 H2) → ∃ e F' H' c' l', run (k e F') H' c' l' = some out ∧ CodeDoes P B rd (.loop p) F H e F' H' ∧ LoopDoes P B rd (.loop p) F H e F' H' :=
        fun e' F2 H2 c2 l2 hk ⟨m, hm⟩ => ⟨e', F2, H2, c2, l2, hk, fun Fc n hW x w a Q hrd hR ha hQ => wpIn_loop_rounds m (hm Fc n hW x w a Q hrd hR ha hQ), fun b e => by cases e; exact ⟨m, hm⟩⟩
      cases e with
      | normal =>
        dsimp only [thenK] at h1
        obtain ⟨e, F2, H2, c2, l2, h3, _, h5⟩ := ih _ _ _ _ _ _ _ _ h1
        obtain ⟨m, hm⟩ := h5 p rfl
        refine done e F2 H2 c2 l2 h3 ⟨m + 1, fun Fc n hW x w a Q hrd hR ha hQ => ?_⟩
        show Code.roundsIn Fc n P p Q (m + 1) a w
        rw [roundsIn_succ]
        refine h2 Fc n hW x w a _ hrd hR ha fun y w1 a1 q1 q2 q3 q4 => ?_
        exact hm Fc n hW y w1 a1 Q (hrd.le q1) q2 q3 fun z w2 a2 r1 r2 r3 r4 => hQ z w2 a2 (Env.le_trans q1 r1) r2 r3 (q4.trans r4)
      | exit i =>
        refine done (.exit i) F1 H1 c1 l1 h1 ⟨1, fun Fc n hW x w a Q hrd hR ha hQ => ?_⟩
        show Code.roundsIn Fc n P p Q 1 a w
        rw [roundsIn_succ]
        exact h2 Fc n hW x w a _ hrd hR ha fun y w1 a1 q1 q2 q3 q4 => hQ y w1 a1 q1 q2 q3 q4
      | ret =>
        refine done .ret F1 H1 c1 l1 h1 ⟨1, fun Fc n hW x w a Q hrd hR ha hQ => ?_⟩
        show Code.roundsIn Fc n P p Q 1 a w
        rw [roundsIn_succ]
        exact h2 Fc n hW x w a _ hrd hR ha fun y w1 a1 q1 q2 q3 q4 => hQ y w1 a1 q1 q2 q3 q4
    | scope p =>
      unfold codeK at h
      obtain ⟨e, F1, H1, c1, l1, h1, h2, _⟩ := ih _ _ _ _ _ _ _ _ h
      refine ⟨e, F1, H1, c1, l1, h1, fun Fc n hW x w a Q hrd hR ha hQ => wpIn_scope' (h2 Fc n hW x w a _ hrd hR ha fun y w1 a1 q1 q2 q3 q4 => ?_), no_loop (fun b e => by cases e)⟩
      cases e <;> exact hQ y w1 a1 q1 q2 q3 q4
    | rangeFunc g ps asg bd =>
      unfold codeK at h
      dsimp only [rangeOpK] at h
      rw [evK_eq] at h
      cases rd with
      | none =>
        dsimp only at h
        obtain ⟨hc, hf, l1, h1⟩ := newC_got h
        obtain ⟨e, H', c', l', h2, h3⟩ := range_got (P := P) (B := B) hfun h1
        refine ⟨e, _, H', c', l', h2, fun Fc n hW x w a Q hrd hR ha hQ => ?_, no_loop (fun b e => by cases e)⟩
        obtain ⟨y, y1, y2, y3⟩ := hR.newC (w' := w.alloc (.deferred (some []))) (d := .dfr) hc hf (fun k hk => Below.heap_alloc w _ k hk) (by simp) 0 (fun y _ => World.alloc_heap_new w _)
        refine wpIn_rangeFunc fun fn _ => ?_
        obtain ⟨gf, caps, w2, g1, g2, g3, g4⟩ := h3 Fc n hW y _ _ a _ Q { a with defers := [{ target := .collected w.heap.size, args := #[] }] ++ a.defers } fn y3 y2 (ha.le y1) ((ha.eval g).le y1) fun z w' z1 z2 z3 => hQ z w' _ (Env.le_trans y1 z1) z2 ⟨.cons (z1 _ _ y2) (ha.dfr.le (Env.le_trans y1 z1)), ⟨ha.tm.size, fun i => (ha.tm.ev i).le (Env.le_trans y1 z1)⟩⟩ (((Below.refl B w).alloc hR.base _).trans z3)
        rw [World.size_alloc] at g2 g4
        refine ⟨w.heap.size + 1, [{ target := .collected w.heap.size, args := #[] }], w2, _, w2, gf, _, w2, ?_, resolve_range _ g1 w2, fun f' _ => hW.fn f', ?_, fun e => (by rw [hW.dep] at e; cases e), hW.call _ _ _ _ _ _ g4⟩
        · have hr : Fc.round = none := hrd
          rw [hr, run_enterLoop_outer, g3]
        · simpa [invoke] using g2
      | some ln =>
        dsimp only at h
        obtain ⟨cell, l1, hg, h1⟩ := getC_got h
        clear h
        split at h1
        · rename_i q
          obtain ⟨e, H', c', l', h2, h3⟩ := range_got (P := P) (B := B) hfun h1
          refine ⟨e, _, H', c', l', h2, fun Fc n hW x w a Q hrd hR ha hQ => ?_, no_loop (fun b e => by cases e)⟩
          obtain ⟨L, hL, hro⟩ := hrd
          obtain ⟨hBL, r, hr, hri⟩ := hR.loopAt hg hL
          obtain ⟨D, hD, hDb⟩ := hri.dfr
          refine wpIn_rangeFunc fun fn _ => ?_
          obtain ⟨gf, caps, w2, g1, g2, g3, g4⟩ := h3 Fc n hW x w D a _ Q { a with defers := [] ++ a.defers } fn hR hD ha (ha.eval g) fun z w' z1 z2 z3 => hQ z w' _ z1 z2 (ha.le z1) z3
          refine ⟨w.heap.size, [], w2, _, w2, gf, _, w2, ?_, resolve_range _ g1 w2, fun f' _ => hW.fn f', ?_, fun e => (by rw [hW.dep] at e; cases e), hW.call _ _ _ _ _ _ g4⟩
          · rw [hro, run_enterLoop_inner hr, g3, hDb]
          · simpa [invoke] using g2
        · exact (not_fail h1).elim
    | _ => unfold codeK at h; exact (not_fail h).elim
/-- What is reckoned out of an empty heap, in any world. -/
theorem reckon_calls {X : FuncId → Option (List MV → (MV → Prg) → Prg)} (hX : ∀ B, StandOk P B X) (hm : P.follows .mixedOrders = true) (hN : ∀ (f : Nat) (fn : Func), P.funcs[f]? = some fn → (fn.name == "runtime.NumGoroutine") = false) {fuel : Nat} {f : FuncId} {v : Value} {H' : Heap} {c' : Nat} {l' : Log}
    (h : reckon P X fuel f = some (.v v, H', c', l')) (w : World) : Calls P f #[] w fun e w' => e = .returned v ∧ Below w.heap.size w w' := by
  obtain ⟨m, H1, c1, l1, h1, h2⟩ := fun_got (hX w.heap.size) hN (code_got (hX w.heap.size) hm hN fuel) _ _ _ _ _ _ _ h
  have hm' : m = .v v := by
    simp only [run, Option.some.injEq, Prod.mk.injEq] at h1
    exact h1.1
  subst hm'
  have hR : Rel w.heap.size (fun _ => none) .nil w := ⟨fun n r hn => (by rw [T.get_nil] at hn; cases hn), fun n m r r' L L' hn => (by rw [T.get_nil] at hn; cases hn), fun n L hn => (by cases hn), Nat.le_refl _⟩
  refine (h2 _ w [] hR .nil).2.mono fun e w' ⟨u, he, y, _, _, hr, hB⟩ => ?_
  rw [hr.v_eq] at he
  exact ⟨he, hB⟩
/-- The same, of a test. -/
def isTrue : Option (MV × Heap × Nat × Log) → Bool
  | some (.v (.bool true), _, _, _) => true
  | _ => false
theorem reckon_true {X : FuncId → Option (List MV → (MV → Prg) → Prg)} (hX : ∀ B, StandOk P B X) (hm : P.follows .mixedOrders = true) (hN : ∀ (f : Nat) (fn : Func), P.funcs[f]? = some fn → (fn.name == "runtime.NumGoroutine") = false) {fuel : Nat} {f : FuncId} (h : isTrue (reckon P X fuel f) = true) (w : World) :
    Calls P f #[] w fun e w' => e = .returned (.bool true) ∧ Below w.heap.size w w' := by
  unfold isTrue at h
  split at h
  · rename_i e
    exact reckon_calls hX hm hN e w
  · cases h
/-- No stand-ins. -/
def noX : FuncId → Option (List MV → (MV → Prg) → Prg) := fun _ => none
theorem noX_ok (P : Program) (B : Nat) : StandOk P B noX := fun f g h => by cases h
end Go.Proofs.YtpdbokbmchlgpaaGreat.Mini
namespace Go.Proofs.YtpdbokbmchlgpaaGreat.Mini

theorem no_count : ∀ (f : Nat) (fn : Func), Tryz.prog.funcs[f]? = some fn → (fn.name == "runtime.NumGoroutine") = false := by
  have h : (Tryz.prog.funcs.all fun fn => !(fn.name == "runtime.NumGoroutine")) = true := by kernel_rfl
  intro f fn hf
  have := Array.all_eq_true_iff_forall_mem.1 h fn (Array.mem_of_getElem? hf)
  simpa using this
set_option maxRecDepth 1000000 in
theorem known_reckoned : isTrue (reckon Tryz.prog noX 100000 8) = true := by kernel_rfl
theorem known_true (w : World) : Calls Tryz.prog 8 #[] w fun e w' => e = .returned (.bool true) ∧ RowKit.Below w.heap.size w w' :=
  reckon_true (noX_ok _) (by kernel_rfl) no_count known_reckoned w
end Go.Proofs.YtpdbokbmchlgpaaGreat.Mini
namespace Go.Proofs.YtpdbokbmchlgpaaGreat.PK
open Go.RowKit

theorem known20 (w : World) : Calls Tryz.prog 8 #[] w fun e w' => e = .returned (.bool true) ∧ Below w.heap.size w w' := Mini.known_true w
end Go.Proofs.YtpdbokbmchlgpaaGreat.PK
namespace Go.Proofs.YtpdbokbmchlgpaaGreat.PK
open Go.RowKit

theorem retN_w (r v : Int) (h : isW v) : isW (retN r v) := by
  obtain ⟨h0, h1⟩ := h
  unfold retN
  split
  · have hp : 0 < (2 : Int) ^ r.toNat := Int.pow_pos (by decide)
    have e := Int.emod_def v ((2 : Int) ^ r.toNat)
    have q := Int.mul_nonneg (Int.le_of_lt hp) (Int.ediv_nonneg h0 (Int.le_of_lt hp))
    exact ⟨Int.emod_nonneg _ (by omega), by omega⟩
  · exact ⟨h0, h1⟩
theorem sayN_w (F : Fun) (mem : List Int) : isW (sayN F mem) := by
  unfold sayN
  split
  · exact retN_w _ _ (rdD_w mem 256 4 4)
  · exact ⟨by omega, by omega⟩
theorem sayL_len (F : Fun) (mem : List Int) (hs : FunSm F) : (sayL F mem).length ≤ 1000 := by
  unfold sayL
  split
  · rw [slotL_len]; have := hs.sl; omega
  · exact Nat.zero_le _
theorem sayL_row (F : Fun) (mem : List Int) (k : Nat) (hk : k < (sayL F mem).length) : ((sayL F mem).getD k []).length ≤ 1000 := by
  unfold sayL at hk ⊢
  split at hk
  · next h =>
    rw [if_pos h]
    rw [slotL_len] at hk
    have he : errF F = 0 := by
      unfold sayE at h
      split at h
      · assumption
      · exact h
    have := head_slot (errF_good he).head hk
    have e : (slotL F mem F.sl.length).getD k [] = rowT mem (512 + 256 * k) (F.sl.getD k 0).toNat := by
      unfold slotL
      simp [List.getD_eq_getElem?_getD, hk]
    rw [e, rowT_len]; omega
  · exact absurd hk (Nat.not_lt_zero _)
set_option maxRecDepth 100000 in
set_option maxHeartbeats 2000000 in
theorem pickSays_any (F : Fun) (A : FunA) (size : Int) (ps : List Pk) (a : Option Addr) (c : Nat) (w : World) (hin : FunIn w F A) (hbd : FunBd F) (hp : PksIn w a ps) (hpl : ps.length ≤ maxLen) (hpy : ∀ k, k < ps.length → 0 ≤ (pkA ps k).y ∧ (pkA ps k).y < 256) :
    Calls Tryz.prog 4 #[funV F A, .int .i64 size, .slice a ps.length c] w fun e w' => e = .returned (.bool true) ∧ Below w.heap.size w w' := by
  obtain ⟨pa, pc, sa, sc, ba, bc⟩ := A
  have hal : Below w.heap.size w (w.alloc (.cells #[.slice pa F.ps.length pc, .int .i64 F.ret, .slice sa F.sl.length sc, .slice ba F.bs.length bc] 25)) := (Below.refl _ _).alloc (Nat.le_refl _) _
  have hr0 : (w.alloc (.cells #[.slice pa F.ps.length pc, .int .i64 F.ret, .slice sa F.sl.length sc, .slice ba F.bs.length bc] 25)).heap[w.heap.size]? = some (.cells #[.slice pa F.ps.length pc, .int .i64 F.ret, .slice sa F.sl.length sc, .slice ba F.bs.length bc] 25 (0, 0)) := heap_alloc_new _ _
  have HB0 := Lib.hid hal
  have g0 := cell_of_row _ _ 0 _ _ _ hr0; have g1 := cell_of_row _ _ 1 _ _ _ hr0; have g2 := cell_of_row _ _ 2 _ _ _ hr0; have g3 := cell_of_row _ _ 3 _ _ _ hr0
  have G0 := Lib.hid g0; have G1 := Lib.hid g1; have G2 := Lib.hid g2; have G3 := Lib.hid g3
  have HL := Lib.hid (fun u (h : Below w.heap.size w u) => Long_any F ⟨pa, pc, sa, sc, ba, bc⟩ u (hin.below h) hbd)
  have HPk := Lib.hid (fun mem g u (h : Below w.heap.size w u) (hs : FunSm F) (hm : BIn u (some ⟨g, 0, none⟩) mem) (hB : ∀ x ∈ mem, isB x) (hml : mem.length ≤ 1000000) => Says_pick_any F ⟨pa, pc, sa, sc, ba, bc⟩ mem g u (hin.below h) (hbd.ok hs) hm hB hml)
  have HRf := Lib.hid (fun mem g u (h : Below w.heap.size w u) (hs : FunSm F) (hm : BIn u (some ⟨g, 0, none⟩) mem) (hB : ∀ x ∈ mem, isB x) (hml : mem.length ≤ 1000000) => Says_ref_any F ⟨pa, pc, sa, sc, ba, bc⟩ mem g u (hin.below h) (hbd.ok hs) hm hB hml)
  have HK := Lib.hid known20
  have HP := Lib.hid (fun u (h : Below w.heap.size w u) => hp.below h)
  have HPy := Lib.hid hpy
  have HSo := Lib.hid (fun mem (hs : FunSm F) a b ca cb u (ha : RowsIn u a (sayL F mem)) (hb : RowsIn u b (sayL F mem)) => outcome_same20 (sayN F mem) (sayL F mem) a b ca cb u ha hb (sayL_len F mem hs) (sayL_row F mem) (sayN_w F mem))
  simp only [funV, funC] at HL HPk HRf ⊢
  unfold maxLen at hpl
  clear hin hal hr0 hbd hp hpy
  generalize hnp : ps.length = np at *
  have HNp := Lib.hid hnp; clear hnp
  go_enter Tryz.func4, Tryz.ntmps4
  go_upto_region 1 with fail
  generalize (w.alloc _) = w1 at *
  have HL1 := Lib.hid (HL.out w1 HB0.out)
  by_cases hlp : 100 < np
  · have hlpi : (100 : Int) < (np : Int) := by omega
    go_wp2_with fail
    refine HL1.out.mono ?_; rintro e w2 ⟨⟨t, rfl, ht⟩, hb2⟩
    have HB2 := Lib.hid (HB0.out.trans (hb2.mono HB0.out.size))
    clear hb2 ht g0 g1 g2 g3
    cases t
    all_goals
      go_wp2_with fail
      refine (HK.out _).mono ?_; rintro e w3 ⟨rfl, hb3⟩
      have HX := Lib.hid (HB2.out.trans (hb3.mono HB2.out.size))
      clear hb3
      go_wp2_with fail
      go_ret
      exact ⟨rfl, HX.out⟩
  have hlpi : ¬ (100 : Int) < (np : Int) := by omega
  go_wp2_with fail
  refine HL1.out.mono ?_; rintro e w2 ⟨⟨t, rfl, ht⟩, hb2⟩
  have HT := Lib.hid ht; clear ht
  have HB2 := Lib.hid (HB0.out.trans (hb2.mono HB0.out.size))
  clear g0 g1 g2 g3
  have g0 := keep G0.out hb2; have g1 := keep G1.out hb2; have g2 := keep G2.out hb2; have g3 := keep G3.out hb2
  clear G0 G1 G2 G3
  have G0 := Lib.hid g0; have G1 := Lib.hid g1; have G2 := Lib.hid g2; have G3 := Lib.hid g3
  clear hb2
  cases t
  rotate_left
  · clear g0 g1 g2 g3
    go_wp2_with fail
    refine (HK.out _).mono ?_; rintro e w3 ⟨rfl, hb3⟩
    have HX := Lib.hid (HB2.out.trans (hb3.mono HB2.out.size))
    clear hb3
    go_wp2_with fail
    go_ret
    exact ⟨rfl, HX.out⟩
  have HSm : Hid (FunSm F) := Lib.hid (by by_cases h : FunSm F; exact h; exact absurd (HT.out.2 h) (by simp))
  clear HT g0 g1 g2 g3
  go_upto_region 3 with fail
  go_cut [26] from 21 to 26 (fun v wx => v = .bool (decide (size < 0 ∨ 40000 < size)) ∧ w2 = wx)
  case first =>
    by_cases s0 : size < 0
    · have e0 : decide (size < 0 ∨ 40000 < size) = true := by simp; omega
      go_wp2_with fail
      go_meet
      exact ⟨by rw [e0], rfl⟩
    · by_cases s1 : 40000 < size
      · have e0 : decide (size < 0 ∨ 40000 < size) = true := by simp; omega
        go_wp2_with fail
        go_meet
        exact ⟨by rw [e0], rfl⟩
      · have e0 : decide (size < 0 ∨ 40000 < size) = false := by simp; omega
        go_wp2_with fail
        go_meet
        exact ⟨by rw [e0], rfl⟩
  case rest =>
    obtain ⟨rfl, rfl⟩ := hcut
    have HSz0 := Lib.hid (show decide (size < 0 ∨ 40000 < size) = false → 0 ≤ size ∧ size ≤ 40000 by simp)
    generalize decide (size < 0 ∨ 40000 < size) = big at *
    go_upto_if 26 with fail
    go_cut [1] from 27 to 28 (fun v wx => ∃ n : Nat, v = .int .i64 n ∧ n ≤ 40000 ∧ w2 = wx)
    case first =>
      cases big
      · obtain ⟨s0, s1⟩ := HSz0.out rfl
        obtain ⟨n, rfl⟩ := Int.eq_ofNat_of_zero_le s0
        go_wp2_with fail
        go_meet
        exact ⟨n, rfl, by omega, rfl⟩
      · go_wp2_with fail
        go_meet
        exact ⟨32768, rfl, by omega, rfl⟩
    case rest =>
      obtain ⟨n, rfl, hn, rfl⟩ := hcut
      have hmk := run_make_row' (P := Tryz.prog) 33 5 (.int .u8 0) 1 Tryz.underlying33 infoByte rfl .i64 .i64 n (by omega) (by omega)
      have HM0 := Lib.hid (bytes_made w2 n (by unfold maxLen; omega))
      have hal2 := (Below.refl w2.heap.size w2).alloc (Nat.le_refl _) (.cells (madeCells #[.int .u8 0] n) 5)
      have HAl2 := Lib.hid hal2
      have hsz : (w2.alloc (.cells (madeCells #[.int .u8 0] n) 5)).heap.size = w2.heap.size + 1 := by simp
      have HSz := Lib.hid hsz
      clear hal2 hsz
      go_upto_region 6 with fail
      clear hmk
      generalize w2.alloc (.cells (madeCells #[.int .u8 0] n) 5) = w3 at *
      generalize hq : w2.heap.size = q at *
      have HQ := Lib.hid hq; clear hq
      go_wp2_with fail
      have HWq : Hid (w.heap.size ≤ q) := Lib.hid (by rw [← HQ.out]; exact HB2.out.size)
      have HKp : Hid (∀ wr, Save q w3 wr → Below q w2 wr) := Lib.hid fun wr hs => HAl2.out.trans (hs.below (B := q) (Nat.le_refl _) (by rw [HSz.out]; omega))
      go_loopw [8] (fun i wr => ∃ k : Nat, k ≤ np ∧ i = .int .i64 k ∧ (∃ mem : List Int, mem.length = n ∧ (∀ x ∈ mem, isB x) ∧ wr.ownsRow q 5 1 (.slice (some ⟨q, 0, none⟩) n n) n (encB mem)) ∧ Save q w3 wr) (fun i _ => np - (intOf i).toNat)
      case atStart => exact ⟨0, Nat.zero_le _, rfl, ⟨List.replicate n 0, List.length_replicate, fun x hx => by rw [List.eq_of_mem_replicate hx]; exact ⟨by omega, by omega⟩, HM0.out⟩, Save.refl _ _⟩
      case round =>
        obtain ⟨k, hk, rfl, ⟨mem, hml, hmb, ho⟩, hs⟩ := hrel
        have HO := Lib.hid ho; have HS := Lib.hid hs; have HMb := Lib.hid hmb; have HMl := Lib.hid hml
        have hbw := HKp.out wr hs
        have HBr := Lib.hid (HB2.out.trans (hbw.mono HWq.out))
        clear hmb hs
        by_cases hlt : k < np
        · have hki : (k : Int) < (np : Int) := by omega
          obtain ⟨b, o, rfl, c0, c1⟩ := HP.out wr HBr.out k (by rw [HNp.out]; exact hlt)
          obtain ⟨y0, y1⟩ := HPy.out k hlt
          have HY := Lib.hid (show isB (pkA ps k).y from ⟨y0, y1⟩)
          generalize (pkA ps k).p = p at *
          generalize (pkA ps k).y = y at *
          clear hbw
          by_cases hp0 : 0 ≤ p
          rotate_left
          · clear ho hml y0 y1
            go_wp2_with fail
            go_roundw
            case rel => exact ⟨k + 1, by omega, by go_num, ⟨mem, HMl.out, HMb.out, HO.out⟩, HS.out⟩
            case measure => simp [intOf]; omega
          obtain ⟨j, rfl⟩ := Int.eq_ofNat_of_zero_le hp0
          by_cases hpn : j < n
          rotate_left
          · have hpi : ¬ (j : Int) < (n : Int) := by omega
            clear ho hml y0 y1
            go_wp2_with fail
            go_roundw
            case rel => exact ⟨k + 1, by omega, by go_num, ⟨mem, HMl.out, HMb.out, HO.out⟩, HS.out⟩
            case measure => simp [intOf]; omega
          have hpi : (j : Int) < (n : Int) := by omega
          obtain ⟨g', c', ev, _, _, _, _, hcs, hfz⟩ := owns_cells ho (by omega)
          simp only [Value.slice.injEq, Option.some.injEq, Addr.mk.injEq, and_true, true_and] at ev
          obtain ⟨rfl, rfl⟩ := ev
          have hcell := hcs j _ (encB_get (by rw [hml]; omega))
          have hfr := hfz j
          clear ho hcs hfz hml
          generalize mem.getD j 0 = old at *
          go_upto_region 10 with fail
          go_still_tail 12, (by kernel_rfl)
          change wpList _ _ _ _ _ wr.drew
          have HSd := Lib.hid (show wr.drew.ownsRow q 5 1 (.slice (some ⟨q, 0, none⟩) n n) n (encB mem) from HO.out)
          go_wp2_with fail
          go_roundw
          case rel => exact ⟨k + 1, by omega, by go_num, ⟨mem.set j y, by rw [List.length_set]; exact HMl.out, fun x hx => (List.mem_or_eq_of_mem_set hx).elim (fun h => HMb.out x h) (fun h => h ▸ HY.out), by rw [encB_set]; exact owns_set HSd.out _ _⟩, (HS.out.trans (Save.set q j wr (.int .u8 y))).trans (Save.of_below (below_drew1 (Below.refl _ _)))⟩
          case measure => simp [intOf]; omega
        obtain rfl : k = np := by omega
        have HS1 := Lib.hid (HSo.out mem HSm.out)
        have HPk1 := Lib.hid (HPk.out mem q wr HBr.out HSm.out (bin_owns HO.out) HMb.out (by rw [HMl.out]; omega))
        have HRf1 := Lib.hid (fun u (h : Below wr.heap.size wr u) => HRf.out mem q u (HBr.out.trans (h.mono HBr.out.size)) HSm.out ((bin_owns HO.out).below h) HMb.out (by rw [HMl.out]; omega))
        unfold SayPost outV at HPk1 HRf1
        unfold outV at HS1
        rw [HMl.out] at HPk1 HRf1
        generalize sayL F mem = L at *
        generalize sayN F mem = N at *
        generalize sayE F mem = E at *
        have g0 := keep G0.out (by rw [HQ.out]; exact hbw); have g1 := keep G1.out (by rw [HQ.out]; exact hbw); have g2 := keep G2.out (by rw [HQ.out]; exact hbw); have g3 := keep G3.out (by rw [HQ.out]; exact hbw)
        have K0 := Lib.hid g0; have K1 := Lib.hid g1; have K2 := Lib.hid g2; have K3 := Lib.hid g3
        clear hbw ho hml hk hn
        go_wp2_with fail
        refine HPk1.out.mono ?_; rintro e w4 ⟨a4, c4, rfl, hr4, hb4⟩
        have hal5 : Below w4.heap.size w4 (w4.alloc (.cells #[.int .i64 0, .bool false, .int .i64 0, .int .u32 N, .slice a4 L.length c4] 45)) := (Below.refl _ _).alloc (Nat.le_refl _) _
        have hr5 : (w4.alloc (.cells #[.int .i64 0, .bool false, .int .i64 0, .int .u32 N, .slice a4 L.length c4] 45)).heap[w4.heap.size]? = some (.cells #[.int .i64 0, .bool false, .int .i64 0, .int .u32 N, .slice a4 L.length c4] 45 (0, 0)) := heap_alloc_new _ _
        have HR5 := Lib.hid (hr4.below hal5)
        have hb5 := hb4.trans (hal5.mono hb4.size)
        have HB5 := Lib.hid hb5
        have HO5 := Lib.hid hr5
        clear g0 g1 g2 g3
        have g0 := keep K0.out hb5; have g1 := keep K1.out hb5; have g2 := keep K2.out hb5; have g3 := keep K3.out hb5
        have HRf5 := Lib.hid (HRf1.out _ hb5)
        clear hal5 hr5 hb5 hr4 hb4
        go_upto_region 12 with fail
        generalize (w4.alloc _) = w5 at *
        generalize w4.heap.size = p5 at *
        have d0 := cell_of_row _ _ 0 _ _ _ HO5.out; have d1 := cell_of_row _ _ 1 _ _ _ HO5.out; have d2 := cell_of_row _ _ 2 _ _ _ HO5.out; have d3 := cell_of_row _ _ 3 _ _ _ HO5.out; have d4 := cell_of_row _ _ 4 _ _ _ HO5.out
        have D0 := Lib.hid d0; have D1 := Lib.hid d1; have D2 := Lib.hid d2; have D3 := Lib.hid d3; have D4 := Lib.hid d4
        clear d0 d1 d2 d3 d4
        go_wp2_with fail
        refine HRf5.out.mono ?_; rintro e w6 ⟨a6, c6, rfl, hr6, hb6⟩
        have hal7 : Below w6.heap.size w6 (w6.alloc (.cells #[.int .i64 0, .bool false, .int .i64 0, .int .u32 N, .slice a6 L.length c6] 45)) := (Below.refl _ _).alloc (Nat.le_refl _) _
        have hr7 : (w6.alloc (.cells #[.int .i64 0, .bool false, .int .i64 0, .int .u32 N, .slice a6 L.length c6] 45)).heap[w6.heap.size]? = some (.cells #[.int .i64 0, .bool false, .int .i64 0, .int .u32 N, .slice a6 L.length c6] 45 (0, 0)) := heap_alloc_new _ _
        have hb7 := hb6.trans (hal7.mono hb6.size)
        have HS7 := Lib.hid (HS1.out a4 a6 c4 c6 _ (HR5.out.below hb7) (hr6.below hal7))
        have HB7 := Lib.hid (HBr.out.trans ((HB5.out.trans (hb7.mono HB5.out.size)).mono HBr.out.size))
        have d0 := keep D0.out hb7; have d1 := keep D1.out hb7; have d2 := keep D2.out hb7; have d3 := keep D3.out hb7; have d4 := keep D4.out hb7
        have e0 := cell_of_row _ _ 0 _ _ _ hr7; have e1 := cell_of_row _ _ 1 _ _ _ hr7; have e2 := cell_of_row _ _ 2 _ _ _ hr7; have e3 := cell_of_row _ _ 3 _ _ _ hr7; have e4 := cell_of_row _ _ 4 _ _ _ hr7
        clear g0 g1 g2 g3 hal7 hr7 hb7 hr6 hb6
        go_upto_region 13 with fail
        generalize (w6.alloc _) = w7 at *
        generalize w6.heap.size = p7 at *
        have qE : (E == E) = true := beq_self_eq_true E
        go_wp2_with fail
        refine HS7.out.mono ?_; rintro e w8 ⟨rfl, hb8⟩
        have HB8 := Lib.hid (HB7.out.trans (hb8.mono HB7.out.size))
        clear hb8 d0 d1 d2 d3 d4 e0 e1 e2 e3 e4
        go_wp2_with fail
        refine (HK.out _).mono ?_; rintro e w9 ⟨rfl, hb9⟩
        have HX := Lib.hid (HB8.out.trans (hb9.mono HB8.out.size))
        clear hb9
        go_wp2_with fail
        go_ret
        exact ⟨rfl, HX.out⟩
end Go.Proofs.YtpdbokbmchlgpaaGreat.PK
