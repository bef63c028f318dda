/- Packed of several texts. -/
import Derived.Test.YtbbbflnnbbaamaaGreatDoorH09
import Derived.LoopNIn
import Derived.Test.YtbbbflnnbbaamaaGreatDoorProg
import Derived.KernelRfl
import Derived.WalkKit
namespace Go.Proofs.YtbbbflnnbbaamaaGreatDoor.Mini
open Go.RowKit

variable {P : Program} {B : Nat}
theorem no_loop {rd : Option Nat} {c : Code} {F F' : Fr} {H H' : Heap} {e : Ex} (h : ∀ b, c ≠ .loop b) : LoopDoes P B rd c F H e F' H' := fun b e => absurd e (h b)
theorem code_got {X : FuncId → Option (List MV → (MV → Prg) → Prg)} (hX : StandOk P B X) (hm : P.follows .mixedOrders = true) (hN : ∀ (f : Nat) (fn : Func), P.funcs[f]? = some fn → (fn.name == "runtime.NumGoroutine") = false) : ∀ fuel, CodeOk P B (codeK P X fuel)
 | 0 => fun rd c F k H cn l out h => by unfold codeK at h; exact (not_fail h).elim
 | fuel + 1 => by
  have ih := code_got hX hm hN fuel
  have hcall := callK_got hX hN ih
  have hfun := fun_got hX hN ih
  intro rd c F k H cn l out h
  cases c with
  | skip =>
   unfold codeK at h
   exact ⟨.normal, F, H, cn, l, h, fun Fc n hW x w a Q hrd hR ha hQ => wpIn_skip (hQ x w a (Env.le_refl x) hR ha (Below.refl B w)), no_loop (fun b e => by cases e)⟩
  | label i =>
   unfold codeK at h
   exact ⟨.normal, F, H, cn, l, h, fun Fc n hW x w a Q hrd hR ha hQ => wpIn_label (hQ x w a (Env.le_refl x) hR ha (Below.refl B w)), no_loop (fun b e => by cases e)⟩
  | exit i =>
   unfold codeK at h
   exact ⟨.exit i, F, H, cn, l, h, fun Fc n hW x w a Q hrd hR ha hQ => wpIn_exit (hQ x w a (Env.le_refl x) hR ha (Below.refl B w)), no_loop (fun b e => by cases e)⟩
  | ret =>
   unfold codeK at h
   exact ⟨.ret, F, H, cn, l, h, fun Fc n hW x w a Q hrd hR ha hQ => wpIn_ret (hQ x w a (Env.le_refl x) hR ha (Below.refl B w)), no_loop (fun b e => by cases e)⟩
  | region id ops d =>
   unfold codeK at h
   dsimp only [regionK] at h
   cases d with
   | false =>
    dsimp only at h
    obtain ⟨F', H', c', l', h1, h2⟩ := reg_got hcall ops _ _ _ _ _ _ _ h
    exact ⟨.normal, F', H', c', l', h1, fun Fc n hW x w a Q hrd hR ha hQ => wpIn_region_list (h2 Fc n hW x w a Q hR ha hQ), no_loop (fun b e => by cases e)⟩
   | true =>
    dsimp only at h
    split at h
    ·rename_i hs
     obtain ⟨items, F', H', c', l', h1, h2, h3, h4⟩ := regD_ran _ _ _ _ _ _ _ _ _ h
     rw [List.append_nil] at h1
     dsimp only at h1
     split at h1
     ·rename_i hl
      have hrem := rem_start hs hl h3 h4
      have hlen : items.length = ops.size := by
       have := congrArg List.length h3
       simpa using this
      refine ⟨.normal, F', H', c', l', h1, fun Fc n hW x w a Q hrd hR ha hQ => wpIn_region_any hm ?_, no_loop (fun b e => by cases e)⟩
      exact ran_any hcall (static_spec hs).1 hW ops.size items _ F H x a _ Q hlen hrem h2 (hR.same rfl) ha fun y w' a' q1 q2 q3 q4 => hQ y w' a' q1 q2 q3 ((Below.refl B w).drew.trans q4)
     ·exact (not_fail h1).elim
    ·exact (not_fail h).elim
  | seq p q =>
   unfold codeK at h
   obtain ⟨e, F1, H1, c1, l1, h1, h2, _⟩ := ih _ _ _ _ _ _ _ _ h
   cases e with
   | normal =>
    dsimp only [thenK] at h1
    obtain ⟨e, F2, H2, c2, l2, h3, h4, _⟩ := ih _ _ _ _ _ _ _ _ h1
    refine ⟨e, F2, H2, c2, l2, h3, fun Fc n hW x w a Q hrd hR ha hQ => wpIn_seq ?_, no_loop (fun b e => by cases e)⟩
    refine h2 Fc n hW x w a _ hrd hR ha fun y w1 a1 q1 q2 q3 q4 => ?_
    exact h4 Fc n hW y w1 a1 Q (hrd.le q1) q2 q3 fun z w2 a2 r1 r2 r3 r4 => hQ z w2 a2 (Env.le_trans q1 r1) r2 r3 (q4.trans r4)
   | exit i => exact ⟨.exit i, F1, H1, c1, l1, h1, fun Fc n hW x w a Q hrd hR ha hQ => wpIn_seq (h2 Fc n hW x w a _ hrd hR ha fun y w1 a1 q1 q2 q3 q4 => hQ y w1 a1 q1 q2 q3 q4), no_loop (fun b e => by cases e)⟩
   | ret => exact ⟨.ret, F1, H1, c1, l1, h1, fun Fc n hW x w a Q hrd hR ha hQ => wpIn_seq (h2 Fc n hW x w a _ hrd hR ha fun y w1 a1 q1 q2 q3 q4 => hQ y w1 a1 q1 q2 q3 q4), no_loop (fun b e => by cases e)⟩
  | cond y p q =>
   unfold codeK at h
   dsimp only [condK] at h
   rw [evK_eq] at h
   split at h
   ·rename_i ey
    obtain ⟨e, F1, H1, c1, l1, h1, h2, _⟩ := ih _ _ _ _ _ _ _ _ h
    refine ⟨e, F1, H1, c1, l1, h1, fun Fc n hW x w a Q hrd hR ha hQ => wpIn_cond_true ?_ (h2 Fc n hW x w a Q hrd hR ha hQ), no_loop (fun b e => by cases e)⟩
    have := ha.eval y
    rw [ey] at this
    exact this.v_eq
   ·rename_i ey
    obtain ⟨e, F1, H1, c1, l1, h1, h2, _⟩ := ih _ _ _ _ _ _ _ _ h
    refine ⟨e, F1, H1, c1, l1, h1, fun Fc n hW x w a Q hrd hR ha hQ => wpIn_cond_false ?_ (h2 Fc n hW x w a Q hrd hR ha hQ), no_loop (fun b e => by cases e)⟩
    have := ha.eval y
    rw [ey] at this
    exact this.v_eq
   ·exact (not_fail h).elim
  | block id p =>
   unfold codeK at h
   obtain ⟨e, F1, H1, c1, l1, h1, h2, _⟩ := ih _ _ _ _ _ _ _ _ h
   cases e with
   | normal => exact ⟨.normal, F1, H1, c1, l1, h1, fun Fc n hW x w a Q hrd hR ha hQ => wpIn_block (h2 Fc n hW x w a _ hrd hR ha fun y w1 a1 q1 q2 q3 q4 => hQ y w1 a1 q1 q2 q3 q4), no_loop (fun b e => by cases e)⟩
   | exit i =>
    dsimp only [endBlockK] at h1
    split at h1
    ·rename_i hi
     have hi := beq_eq hi
     exact ⟨.normal, F1, H1, c1, l1, h1, fun Fc n hW x w a Q hrd hR ha hQ => wpIn_block (h2 Fc n hW x w a _ hrd hR ha fun y w1 a1 q1 q2 q3 q4 => by
      show Exit.inBlock id Q (.exit i) a1 w1
      simp only [Exit.inBlock]
      rw [if_pos hi]
      exact hQ y w1 a1 q1 q2 q3 q4), no_loop (fun b e => by cases e)⟩
    ·rename_i hi
     have hne : i ≠ id := fun e => by subst e; rw [Nat.beq_refl] at hi; cases hi
     exact ⟨.exit i, F1, H1, c1, l1, h1, fun Fc n hW x w a Q hrd hR ha hQ => wpIn_block (h2 Fc n hW x w a _ hrd hR ha fun y w1 a1 q1 q2 q3 q4 => by
      show Exit.inBlock id Q (.exit i) a1 w1
      simp only [Exit.inBlock]
      rw [if_neg hne]
      exact hQ y w1 a1 q1 q2 q3 q4), no_loop (fun b e => by cases e)⟩
   | ret => exact ⟨.ret, F1, H1, c1, l1, h1, fun Fc n hW x w a Q hrd hR ha hQ => wpIn_block (h2 Fc n hW x w a _ hrd hR ha fun y w1 a1 q1 q2 q3 q4 => hQ y w1 a1 q1 q2 q3 q4), no_loop (fun b e => by cases e)⟩
  | loop p =>
   unfold codeK at h
   obtain ⟨e, F1, H1, c1, l1, h1, h2, _⟩ := ih _ _ _ _ _ _ _ _ h
   have done : ∀ e' F2 H2 c2 l2, run (k e' F2) H2 c2 l2 = some out → (∃ m, StretchDoes B rd (fun Fc n Q a w => Code.roundsIn Fc n P p Q m a w) F H e' F2 H2) → ∃ e F' H' c' l', run (k e F') H' c' l' = some out ∧ CodeDoes P B rd (.loop p) F H e F' H' ∧ LoopDoes P B rd (.loop p) F H e F' H' :=
    fun e' F2 H2 c2 l2 hk ⟨m, hm⟩ => ⟨e', F2, H2, c2, l2, hk, fun Fc n hW x w a Q hrd hR ha hQ => wpIn_loop_rounds m (hm Fc n hW x w a Q hrd hR ha hQ), fun b e => by cases e; exact ⟨m, hm⟩⟩
   cases e with
   | normal =>
    dsimp only [thenK] at h1
    obtain ⟨e, F2, H2, c2, l2, h3, _, h5⟩ := ih _ _ _ _ _ _ _ _ h1
    obtain ⟨m, hm⟩ := h5 p rfl
    refine done e F2 H2 c2 l2 h3 ⟨m + 1, fun Fc n hW x w a Q hrd hR ha hQ => ?_⟩
    show Code.roundsIn Fc n P p Q (m + 1) a w
    rw [roundsIn_succ]
    refine h2 Fc n hW x w a _ hrd hR ha fun y w1 a1 q1 q2 q3 q4 => ?_
    exact hm Fc n hW y w1 a1 Q (hrd.le q1) q2 q3 fun z w2 a2 r1 r2 r3 r4 => hQ z w2 a2 (Env.le_trans q1 r1) r2 r3 (q4.trans r4)
   | exit i =>
    refine done (.exit i) F1 H1 c1 l1 h1 ⟨1, fun Fc n hW x w a Q hrd hR ha hQ => ?_⟩
    show Code.roundsIn Fc n P p Q 1 a w
    rw [roundsIn_succ]
    exact h2 Fc n hW x w a _ hrd hR ha fun y w1 a1 q1 q2 q3 q4 => hQ y w1 a1 q1 q2 q3 q4
   | ret =>
    refine done .ret F1 H1 c1 l1 h1 ⟨1, fun Fc n hW x w a Q hrd hR ha hQ => ?_⟩
    show Code.roundsIn Fc n P p Q 1 a w
    rw [roundsIn_succ]
    exact h2 Fc n hW x w a _ hrd hR ha fun y w1 a1 q1 q2 q3 q4 => hQ y w1 a1 q1 q2 q3 q4
  | scope p =>
   unfold codeK at h
   obtain ⟨e, F1, H1, c1, l1, h1, h2, _⟩ := ih _ _ _ _ _ _ _ _ h
   refine ⟨e, F1, H1, c1, l1, h1, fun Fc n hW x w a Q hrd hR ha hQ => wpIn_scope' (h2 Fc n hW x w a _ hrd hR ha fun y w1 a1 q1 q2 q3 q4 => ?_), no_loop (fun b e => by cases e)⟩
   cases e <;> exact hQ y w1 a1 q1 q2 q3 q4
  | rangeFunc g ps asg bd =>
   unfold codeK at h
   dsimp only [rangeOpK] at h
   rw [evK_eq] at h
   cases rd with
   | none =>
    dsimp only at h
    obtain ⟨hc, hf, l1, h1⟩ := newC_got h
    obtain ⟨e, H', c', l', h2, h3⟩ := range_got (P := P) (B := B) hfun h1
    refine ⟨e, _, H', c', l', h2, fun Fc n hW x w a Q hrd hR ha hQ => ?_, no_loop (fun b e => by cases e)⟩
    obtain ⟨y, y1, y2, y3⟩ := hR.newC (w' := w.alloc (.deferred (some []))) (d := .dfr) hc hf (fun k hk => Below.heap_alloc w _ k hk) (by simp) 0 (fun y _ => World.alloc_heap_new w _)
    refine wpIn_rangeFunc fun fn _ => ?_
    obtain ⟨gf, caps, w2, g1, g2, g3, g4⟩ := h3 Fc n hW y _ _ a _ Q { a with defers := [{ target := .collected w.heap.size, args := #[] }] ++ a.defers } fn y3 y2 (ha.le y1) ((ha.eval g).le y1) fun z w' z1 z2 z3 => hQ z w' _ (Env.le_trans y1 z1) z2 ⟨.cons (z1 _ _ y2) (ha.dfr.le (Env.le_trans y1 z1)), ⟨ha.tm.size, fun i => (ha.tm.ev i).le (Env.le_trans y1 z1)⟩⟩ (((Below.refl B w).alloc hR.base _).trans z3)
    rw [World.size_alloc] at g2 g4
    refine ⟨w.heap.size + 1, [{ target := .collected w.heap.size, args := #[] }], w2, _, w2, gf, _, w2, ?_, resolve_range _ g1 w2, fun f' _ => hW.fn f', ?_, fun e => (by rw [hW.dep] at e; cases e), hW.call _ _ _ _ _ _ g4⟩
    ·have hr : Fc.round = none := hrd
     rw [hr, run_enterLoop_outer, g3]
    ·simpa [invoke] using g2
   | some ln =>
    dsimp only at h
    obtain ⟨cell, l1, hg, h1⟩ := getC_got h
    clear h
    split at h1
    ·rename_i q
     obtain ⟨e, H', c', l', h2, h3⟩ := range_got (P := P) (B := B) hfun h1
     refine ⟨e, _, H', c', l', h2, fun Fc n hW x w a Q hrd hR ha hQ => ?_, no_loop (fun b e => by cases e)⟩
     obtain ⟨L, hL, hro⟩ := hrd
     obtain ⟨hBL, r, hr, hri⟩ := hR.loopAt hg hL
     obtain ⟨D, hD, hDb⟩ := hri.dfr
     refine wpIn_rangeFunc fun fn _ => ?_
     obtain ⟨gf, caps, w2, g1, g2, g3, g4⟩ := h3 Fc n hW x w D a _ Q { a with defers := [] ++ a.defers } fn hR hD ha (ha.eval g) fun z w' z1 z2 z3 => hQ z w' _ z1 z2 (ha.le z1) z3
     refine ⟨w.heap.size, [], w2, _, w2, gf, _, w2, ?_, resolve_range _ g1 w2, fun f' _ => hW.fn f', ?_, fun e => (by rw [hW.dep] at e; cases e), hW.call _ _ _ _ _ _ g4⟩
     ·rw [hro, run_enterLoop_inner hr, g3, hDb]
     ·simpa [invoke] using g2
    ·exact (not_fail h1).elim
  | _ => unfold codeK at h; exact (not_fail h).elim
def isTrue : Option (MV × Heap × Nat × Log) → Bool
 | some (.v (.bool true), _, _, _) => true
 | _ => false
def noX : FuncId → Option (List MV → (MV → Prg) → Prg) := fun _ => none
theorem noX_ok (P : Program) (B : Nat) : StandOk P B noX := fun f g h => by cases h
end Go.Proofs.YtbbbflnnbbaamaaGreatDoor.Mini
namespace Go.Proofs.YtbbbflnnbbaamaaGreatDoor.Mini
open Go.RowKit

theorem no_count : ∀ (f : Nat) (fn : Func), Tryz.prog.funcs[f]? = some fn → (fn.name == "runtime.NumGoroutine") = false := by
 have h : (Tryz.prog.funcs.all fun fn => !(fn.name == "runtime.NumGoroutine")) = true := by kernel_rfl
 intro f fn hf
 have := Array.all_eq_true_iff_forall_mem.1 h fn (Array.mem_of_getElem? hf)
 simpa using this
theorem mixed_ok : Tryz.prog.follows .mixedOrders = true := by kernel_rfl
noncomputable abbrev callR (f : FuncId) (args : List MV) (H : Heap) (c : Nat) : Option (MV × Heap × Nat × Log) := run (funK Tryz.prog noX (codeK Tryz.prog noX 100000) f args .ret) H c []
theorem reckon_at {B : Nat} {f : FuncId} {args : List MV} {H0 : Heap} {c0 : Nat} {m : MV} {H' : Heap} {c' : Nat} {l' : Log} (h : callR f args H0 c0 = some (m, H', c', l')) {x : Env} {w : World} {vs : List Value} (hR : Rel B x H0 w) (ha : Rnds x args vs) :
  Calls Tryz.prog f vs.toArray w fun e w' => ∃ v, e = .returned v ∧ Post B x H' m w v w' := by
 obtain ⟨m1, H1, c1, l1, h1, h2⟩ := fun_got (noX_ok _ B) no_count (code_got (noX_ok _ B) mixed_ok no_count 100000) _ _ _ _ _ _ _ h
 simp only [run, Option.some.injEq, Prod.mk.injEq] at h1
 obtain ⟨rfl, rfl, _⟩ := h1
 exact (h2 x w vs hR ha).2
def rowL (ty esz : Nat) (cells : List MV) : Row := ⟨ty, esz, cells.length, false, Fill .nil 0 cells, []⟩
def fillC : T Cell → Nat → List Row → T Cell
 | t, _, [] => t
 | t, i, c :: cs => fillC (t.set i (.live c)) (i + 1) cs
def envL (b0 k : Nat) : Env := fun n => if n < k then some ⟨b0 + n, 0, 0⟩ else none
end Go.Proofs.YtbbbflnnbbaamaaGreatDoor.Mini
namespace Go.Proofs.YtbbbflnnbbaamaaGreatDoor.Mini
open Go.RowKit

theorem rowAt_rnds {x : Env} {w : World} {b ty esz : Nat} {cells : List MV} {arr : Array Value} (hh : w.heap[b]? = some (.cells arr ty (0, 0))) (hr : Rnds x cells arr.toList) (hl : cells.all MV.leaf = true) (hs : cells.length ≤ far) : RowAt x w ⟨b, 0, 0⟩ (rowL ty esz cells) := by
 refine ⟨⟨arr, hh, fun h => by cases h⟩, fun i hi => ?_, hs⟩
 have hi : i < cells.length := hi
 obtain ⟨v, hv, hR⟩ := hr.get i cells[i] (List.getElem?_eq_getElem hi)
 have hc : (rowL ty esz cells).cell i = cells[i] := by
  show ((Fill .nil 0 cells).get i).getD _ = _
  rw [get_fill _ _ _ _ (by omega), if_pos (by omega), Nat.sub_zero, List.getElem?_eq_getElem hi]; rfl
 refine ⟨v, ?_, by rw [hc]; exact hR, hR.leaf (List.all_eq_true.1 hl _ (List.getElem_mem hi))⟩
 show w.cell? ⟨b, 0 + i, none⟩ = _
 rw [Nat.zero_add]
 exact cell_of_row _ _ i _ _ _ (by
  rw [hh]) |>.trans (by simpa using hv)
abbrev iv (n : Int) : MV := .v (.int .i64 n)
abbrev uv (n : Int) : MV := .v (.int .u32 n)
abbrev sv (n len : Nat) : MV := .sl n 0 len (.exact len)
abbrev nv : MV := .v (.slice none 0 0)
def rowsD (p n s t b : Int) : List (Nat × Nat × List MV) :=
 [(3, 1, [iv 1]),
  (63, 6, [iv 0, iv n, iv 0, nv, uv s, nv, iv 0, iv n, iv 0, nv, uv t, nv, iv 0, iv n, iv 0, nv, uv b, nv, iv 29, iv 0, iv 0, nv, uv 0, sv 0 1]),
  (3, 1, [iv 0, iv 7]), (3, 1, [iv 0, iv 2]), (3, 1, [iv 4, iv 2]), (3, 1, [iv 5]), (3, 1, [iv 2, iv 3]),
  (63, 6, [iv 28, iv n, iv 0, sv 2 2, uv 0, sv 3 2, iv 14, iv 1, iv 0, sv 4 2, uv p, nv, iv 30, iv 0, iv 0, sv 5 1, uv 0, sv 6 2]),
  (3, 1, [iv 4, iv 1]), (3, 1, [iv 1]),
  (63, 6, [iv 1, iv n, iv 0, sv 8 2, uv 0, nv, iv 29, iv 0, iv 0, nv, uv 0, sv 9 1]),
  (3, 1, [iv 4]), (63, 6, [iv 31, iv 0, iv 0, sv 11 1, uv 0, nv]),
  (64, 1, [sv 1 4, sv 7 3, sv 10 2, sv 12 1])]
def rowsF (p n s t b : Int) : List Row := (rowsD p n s t b).map fun d => rowL d.1 d.2.1 d.2.2
abbrev env0 (b0 : Nat) : Env := envL b0 14
def F0Mem (w : World) (b0 : Nat) (p n s t b : Int) : Prop := ∀ k r, (rowsF p n s t b)[k]? = some r → RowAt (env0 b0) w ⟨b0 + k, 0, 0⟩ r
def funM (n : Int) : MV := .agg [nv, iv n, nv, sv 13 4]
def funW (b0 : Nat) (n : Int) : Value := .agg #[.slice none 0 0, .int .i64 n, .slice none 0 0, .slice (some ⟨b0 + 13, 0, none⟩) 4 4]
noncomputable abbrev heapF (p n s t b : Int) : Heap := fillC .nil 0 (rowsF p n s t b)
theorem rnd_sl (b0 k len : Nat) (hk : k < 14) : Rnd (env0 b0) (sv k len) (.slice (some ⟨b0 + k, 0, none⟩) len len) := Rnd.sl (L := ⟨b0 + k, 0, 0⟩) (if_pos hk) (Nat.le_refl _)
theorem fun_rnd (b0 : Nat) (n : Int) : Rnd (env0 b0) (funM n) (funW b0 n) := Rnd.agg (.cons (.v _) (.cons (.v _) (.cons (.v _) (.cons (rnd_sl b0 13 4 (by decide)) .nil))))
def okM : MV → Bool
 | .v _ => true
 | .sl n _ _ (.exact _) => Nat.ble (n + 1) 14
 | _ => false
theorem rnd_back {b0 : Nat} {y : Env} (hx : (env0 b0).le y) {m : MV} {v : Value} (hm : okM m = true) (h : Rnd y m v) : Rnd (env0 b0) m v := by
 cases h with
 | v => exact .v _
 | sl h hc =>
  rename_i n off len c L
  cases c with
  | «open» e => cases hm
  | exact c =>
   have hn : n < 14 := Nat.le_of_ble_eq_true hm
   have h1 : env0 b0 n = some ⟨b0 + n, 0, 0⟩ := if_pos hn
   have h2 := hx n _ h1
   rw [h] at h2
   cases h2
   exact Rnd.sl h1 hc
 | _ => cases hm
theorem rows_ok (p n s t b : Int) : ((rowsD p n s t b).all fun d => d.2.2.all okM) = true := rfl
theorem F0Mem.of_rel {B b0 : Nat} {y : Env} {H' : Heap} {w' : World} {p n s t b : Int} (hx : (env0 b0).le y) (hR : Rel B y H' w') (hk : (List.range 14).map H'.get = (rowsF p n s t b).map fun r => some (.live r)) : F0Mem w' b0 p n s t b := by
 intro k r hr
 have hlt : k < 14 := by
  have : k < (rowsF p n s t b).length := by
   rcases Nat.lt_or_ge k (rowsF p n s t b).length with h | h
   ·exact h
   ·rw [List.getElem?_eq_none h] at hr; cases hr
  exact this
 have hg : H'.get k = some (.live r) := by
  have h1 := congrArg (fun l => l[k]?) hk
  simp only [List.getElem?_map, hr, Option.map_some] at h1
  rw [List.getElem?_range hlt] at h1
  simpa using h1
 obtain ⟨L, hL, _, _, hc⟩ := hR.live k _ hg (fun e => by cases e)
 have h2 := hx k _ (if_pos hlt : env0 b0 k = some ⟨b0 + k, 0, 0⟩)
 rw [hL] at h2
 cases h2
 obtain ⟨d, hd, rfl⟩ : ∃ d, (rowsD p n s t b)[k]? = some d ∧ rowL d.1 d.2.1 d.2.2 = r := by
  unfold rowsF at hr
  rw [List.getElem?_map] at hr
  exact Option.map_eq_some_iff.1 hr
 have hok := List.all_eq_true.1 (rows_ok p n s t b) d (List.mem_of_getElem? hd)
 refine ⟨hc.arr, fun i hi => ?_, hc.small⟩
 obtain ⟨v, h3, h4, h5⟩ := hc.cel i hi
 have hi2 : i < d.2.2.length := hi
 have hs := hc.small
 have hs2 : d.2.2.length ≤ far := hs
 have hcell : (rowL d.1 d.2.1 d.2.2).cell i = d.2.2[i] := by
  show ((Fill .nil 0 d.2.2).get i).getD _ = _
  rw [get_fill _ _ _ _ (by omega), if_pos (by omega), Nat.sub_zero, List.getElem?_eq_getElem hi2]; rfl
 exact ⟨v, h3, rnd_back hx (by rw [hcell]; exact List.all_eq_true.1 hok _ (List.getElem_mem hi2)) h4, h5⟩
theorem F0Mem.size {w : World} {b0 : Nat} {p n s t b : Int} (h : F0Mem w b0 p n s t b) : b0 ≤ w.heap.size := Nat.le_of_lt (h 0 _ rfl).lt
end Go.Proofs.YtbbbflnnbbaamaaGreatDoor.Mini
namespace Go.Proofs.YtbbbflnnbbaamaaGreatDoor.PK

structure Ins where
 op : Int
 wd : Int
 fl : Int
 ar : List Int
 im : Nat
 tt : List Int
structure Fun where
 ps : List Int
 ret : Int
 sl : List Int
 bs : List (List Ins)
def noIns : Ins := ⟨0, 0, 0, [], 0, []⟩
instance : Inhabited Ins := ⟨noIns⟩
def atI (l : List Ins) (k : Nat) : Ins := l.getD k noIns
theorem atI_get {l : List Ins} {k : Nat} (h : k < l.length) : atI l k = l[k] := by
 unfold atI
 rw [List.getD_eq_getElem?_getD, List.getElem?_eq_getElem h]; rfl
def atBk (ls : List (List Ins)) (k : Nat) : List Ins := ls.getD k []
theorem atBk_get {ls : List (List Ins)} {k : Nat} (h : k < ls.length) : atBk ls k = ls[k] := by
 unfold atBk
 rw [List.getD_eq_getElem?_getD, List.getElem?_eq_getElem h]; rfl
def isNum (k : Int) : Bool := decide (1 ≤ k ∧ k ≤ 32)
def isMm (k : Int) : Bool := decide (k = 8 ∨ k = 16 ∨ k = 32)
def isLst (op : Int) : Bool := decide (29 ≤ op ∧ op ≤ 32)
def clsI (op : Int) : Int :=
 if op = 0 then 1 else if op = 14 then 3 else if op = 15 then 4 else if op = 16 ∨ op = 17 then 5 else if op = 18 then 6
 else if op = 19 ∨ op = 20 then 7 else if op = 21 then 8 else if op = 22 ∨ op = 23 then 9 else if op = 24 then 10 else if op = 25 then 11
 else if op = 26 then 12 else if op = 27 then 13 else if op = 28 then 14 else if op = 29 then 15 else if op = 30 then 16 else if op = 31 then 17
 else if op = 32 then 18 else if 1 ≤ op ∧ op ≤ 13 then 2 else 0
def flgI (op : Int) : Int :=
 if op = 1 ∨ op = 2 ∨ op = 3 ∨ op = 11 then 3 else if op = 4 ∨ op = 6 ∨ op = 12 ∨ op = 13 then 4 else if op = 25 then 8 else 0
def flOk (op fl : Int) : Bool :=
 if flgI op = 3 then decide (0 ≤ fl ∧ fl ≤ 3) else if flgI op = 4 then decide (fl = 0 ∨ fl = 4) else if flgI op = 8 then decide (fl = 0 ∨ fl = 8) else decide (fl = 0)
def formI (nsl : Nat) (x : Ins) : Bool :=
 let c := clsI x.op
 if c = 1 then isNum x.wd && decide (x.im < 2 ^ x.wd.toNat)
 else if c = 2 ∨ c = 5 ∨ c = 6 ∨ c = 8 ∨ c = 9 then isNum x.wd && decide (x.im = 0)
 else if c = 3 then decide (x.wd = 1) && decide (x.im ≤ 9)
 else if c = 4 then (isNum x.wd || decide (x.wd = 33)) && decide (x.im = 0)
 else if c = 7 then isNum x.wd && decide (1 ≤ x.im) && decide ((x.im : Int) < x.wd) && decide (x.wd.toNat % x.im = 0)
 else if c = 10 then decide (x.wd = 33) && decide (x.im < nsl)
 else if c = 11 then decide (x.wd = 33) && decide (x.im = 0)
 else if c = 12 then isMm x.wd && decide (x.im = 0)
 else if c = 13 ∨ 15 ≤ c then decide (x.wd = 0) && decide (x.im = 0)
 else if c = 14 then (isNum x.wd || decide (x.wd = 33)) && decide (x.im = 0) && decide (0 < x.tt.length)
 else false
def argsI (ret : Int) (x : Ins) : Int :=
 let c := clsI x.op
 if c = 2 ∨ c = 3 ∨ c = 7 ∨ c = 11 ∨ c = 13 then 2 else if c = 4 then 3 else if c = 5 ∨ c = 6 ∨ c = 8 ∨ c = 12 ∨ c = 16 then 1
 else if c = 14 then x.tt.length else if c = 17 then min ret 1 else 0
def tosI (x : Ins) : Int :=
 let c := clsI x.op
 if c = 14 then x.tt.length else if c = 15 then 1 else if c = 16 then 2 else 0
def shapeB (F : Fun) (x : Ins) : Bool :=
 decide (clsI x.op ≠ 0) && (formI F.sl.length x && (flOk x.op x.fl && (decide ((x.ar.length : Int) = argsI F.ret x) && (decide ((x.tt.length : Int) = tosI x) &&
  (!(decide (x.op = 30) && decide (x.tt.getD 0 0 = x.tt.getD 1 0)) && x.tt.all fun b => decide (0 ≤ b ∧ b < F.bs.length))))))
theorem clsI_lo (op : Int) : 0 ≤ clsI op ∧ clsI op ≤ 18 := by
 unfold clsI
 repeat' split
 all_goals omega
end Go.Proofs.YtbbbflnnbbaamaaGreatDoor.PK
namespace Go.Proofs.YtbbbflnnbbaamaaGreatDoor.PK

structure Cd where
 op : Int
 d : Int
 a : Int
 b : Int
 im : Nat
 to : Int
theorem Cd.ext' {p q : Cd} (h1 : p.op = q.op) (h2 : p.d = q.d) (h3 : p.a = q.a) (h4 : p.b = q.b) (h5 : p.im = q.im) (h6 : p.to = q.to) : p = q := by
 cases p; cases q; simp_all
instance : DecidableEq Cd := fun p q =>
 if h : p.op = q.op ∧ p.d = q.d ∧ p.a = q.a ∧ p.b = q.b ∧ p.im = q.im ∧ p.to = q.to then .isTrue (Cd.ext' h.1 h.2.1 h.2.2.1 h.2.2.2.1 h.2.2.2.2.1 h.2.2.2.2.2)
 else .isFalse fun e => h ⟨by rw [e], by rw [e], by rw [e], by rw [e], by rw [e], by rw [e]⟩
def noCd : Cd := ⟨0, 0, 0, 0, 0, 0⟩
instance : Inhabited Cd := ⟨noCd⟩
def wi (n : Int) (asked : Bool) (lo hi : Int) : Bool := if asked then decide (lo ≤ n) && decide (n < hi) else decide (n = 0)
end Go.Proofs.YtbbbflnnbbaamaaGreatDoor.PK
