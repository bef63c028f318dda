/- Packed of several texts. -/
import Derived.Test.YtbbbflnnbbaamaaGreatDoorH08
namespace Go.Proofs.YtbbbflnnbbaamaaGreatDoor.Mini
open Go.RowKit

variable {P : Program} {B : Nat}
theorem puts_got : ∀ (ps : List Tmp) (ms : List MV) (F : Fr) (k : Fr → Prg) (H : Heap) (c : Nat) (l : Log) (out : MV × Heap × Nat × Log), run (putsK F ps ms k) H c l = some out →
  ∃ F', run (k F') H c l = some out ∧ ps.length = ms.length ∧ F'.marks = F.marks ∧ ∀ x tmps vs, FrT x F tmps → Rnds x ms vs → FrT x F' ((ps.zip vs).foldl (fun t (q : Tmp × Value) => t.setIfInBounds q.1 q.2) tmps)
 | [], [], F, k, H, c, l, out, h => ⟨F, h, rfl, rfl, fun x tmps vs hT hv => by cases hv; exact hT⟩
 | [], m :: ms, F, k, H, c, l, out, h => (not_fail h).elim
 | p :: ps, [], F, k, H, c, l, out, h => (not_fail h).elim
 | p :: ps, m :: ms, F, k, H, c, l, out, h => by
  unfold putsK at h
  obtain ⟨hf, h1⟩ := run_putK h
  obtain ⟨F', h2, h3, h4, h5⟩ := puts_got ps ms _ _ _ _ _ _ h1
  refine ⟨F', h2, by simp [h3], h4, fun x tmps vs hT hv => ?_⟩
  cases hv with
  | cons q1 q2 => exact h5 x _ _ (hT.put (hf p rfl).1 (hf p rfl).2 q1) q2
theorem zip_fold (ps : Array Tmp) (args : Array Value) (tmps : Array Value) : (ps.zip args).foldl (fun tmps (t, a) => tmps.setIfInBounds t a) tmps = (ps.toList.zip args.toList).foldl (fun t (q : Tmp × Value) => t.setIfInBounds q.1 q.2) tmps := by
 rw [← Array.foldl_toList, Array.toList_zip]
theorem Rel.loopTo {x : Env} {H : Heap} {w : World} (h : Rel B x H w) {n : Nat} {q : Lp} (hq : H.get n = some (.lp q)) (hf : n < far) {L : Loc} (hL : x n = some L) {r : Loop} {r' : Loop} {q' : Lp} (hr' : LpIs x q r → LpIs x q' r') (hr : w.heap[L.b]? = some (.loop r)) :
  Rel B x (H.set n (.lp q')) (w.putObj L.b (.loop r')) := by
 obtain ⟨L', g1, g2, g3, r0, g4, g5⟩ := h.live n _ hq (fun e => by cases e)
 rw [hL] at g1; cases g1
 rw [hr] at g4; cases g4
 exact h.putC hq (fun e => by cases e) hf hL (fun k hk => World.putObj_heap_other hk) (by simp) ⟨_, World.putObj_heap_same g3, hr' g5⟩
theorem Rel.loopAt {x : Env} {H : Heap} {w : World} (h : Rel B x H w) {n : Nat} {q : Lp} (hq : H.get n = some (.lp q)) {L : Loc} (hL : x n = some L) : B ≤ L.b ∧ ∃ r, w.heap[L.b]? = some (.loop r) ∧ LpIs x q r := by
 obtain ⟨L', g1, g2, g3, r0, g4, g5⟩ := h.live n _ hq (fun e => by cases e)
 rw [hL] at g1; cases g1
 exact ⟨g2, r0, g4, g5⟩
theorem yield_got {body : Option Nat → Code → Fr → (Ex → Fr → Prg) → Prg} (hb : CodeOk P B body) {n : Nat} {args : List MV} {k : MV → Prg} {H : Heap} {c : Nat} {l : Log} {out : MV × Heap × Nat × Log} (h : run (yieldK body n args k) H c l = some out) :
  Got k out fun m H' => ∀ x w vs L, Rel B x H w → x n = some L → Rnds x args vs → NextDoes P B x H' m w (calleeSem (.func (.yield L.b) #[] #[]) vs.toArray) := by
 unfold yieldK at h
 obtain ⟨cell, l1, hg, h1⟩ := getC_got h
 clear h
 split at h1
 ·rename_i q
  split at h1
  ·rename_i hst
   obtain ⟨F1, h2, hpl, hpm, hput⟩ := puts_got _ _ _ _ _ _ _ _ h1
   obtain ⟨e1, F2, H2, c2, l2, h3, hdo1, _⟩ := hb _ _ _ _ _ _ _ _ h2
   cases e1 with
   | exit i => exact (not_fail h3).elim
   | ret => exact (not_fail h3).elim
   | normal =>
    obtain ⟨cell2, l3, hg2, h4⟩ := getC_got h3
    split at h4
    ·rename_i q2
     split at h4
     ·rename_i hst2
      obtain ⟨hf, l4, h5⟩ := setC_got h4
      obtain ⟨e3, F3, H3, c3, l5, h6, hdo2, _⟩ := hb _ _ _ _ _ _ _ _ h5
      obtain ⟨cell3, l6, hg3, h7⟩ := getC_got h6
      split at h7
      ·rename_i q3
       have fin : ∀ (H4 : Heap) (b : Bool) (st : LpSt) (pend : Option Jmp), H4 = H3.set n (.lp ⟨st, q3.fr, q3.ps, q3.asg, q3.bd, pend, q3.dfr⟩) → (b = pend.isNone) → (st.st = if pend.isNone then LoopState.ready else LoopState.done) →
         (∀ (w : World) (b' : Nat) (R : Ending → World → Prop) (a : Act), (∃ v w', (Instr.endRound b' (pend.map Jmp.code)).run P w = .ok v w' ∧ R (.returned v) w') → roundPost P b' R e3.ex a w) →
         ∀ x w vs L, Rel B x H w → x n = some L → Rnds x args vs → NextDoes P B x H4 (.v (.bool b)) w (calleeSem (.func (.yield L.b) #[] #[]) vs.toArray) := by
        intro H4 b st pend eH hbp hsp hround x w vs L hR hL hvs
        obtain ⟨hBL, r, hr, hri⟩ := hR.loopAt hg hL
        have hsz : vs.toArray.size = r.params.size := by
         have h0 := hvs.length
         have h1 := hri.ps
         have : r.params.size = q.ps.length := by rw [← h1]; simp
         simp
         omega
        refine .inr (.inr ⟨L.b, r.fn, (r.params.zip vs.toArray).foldl (fun tmps (t, a) => tmps.setIfInBounds t a) r.tmps, r.assign, r.body, ?_, fun Fc nn hW => ?_⟩)
        ·have := run_yield (P := P) hr hsz
         simpa [calleeSem, Deferred.ofValue, invoke] using this
        ·refine roundIn_of_wpIn (hW.fn _) ?_
         rw [hri.asg, zip_fold, hri.ps, hri.bd]
         have hT : FrT x F1 ((q.ps.zip vs.toArray.toList).foldl (fun t (q : Tmp × Value) => t.setIfInBounds q.1 q.2) r.tmps) := hput x r.tmps vs ⟨hri.tmps.size, hri.tmps.ev⟩ hvs
         refine hdo1 (Fc.inRound L.b) nn (hW.inRound L.b) x w _ _ ⟨L, hL, rfl⟩ hR ⟨by rw [hpm]; exact .nil, hT⟩ fun y w1 a1 q1 hR1 ha1 hB1 => ?_
         obtain ⟨_, r1, hr1, hri1⟩ := hR1.loopAt hg2 (q1 _ _ hL)
         refine ⟨_, run_beginRound hr1 (by rw [hri1.st, hst2]; rfl), ?_⟩
         have hR2 := hR1.loopTo (r := r1) hg2 hf (q1 _ _ hL) (r' := { r1 with state := .busy }) (q' := ⟨.busy, q2.fr, q2.ps, q2.asg, q2.bd, q2.pend, q2.dfr⟩) (fun hi => ⟨rfl, hi.pend, hi.tmps, hi.ps, hi.asg, hi.bd, hi.dfr⟩) hr1
         refine hdo2 (Fc.inRound L.b) nn (hW.inRound L.b) y _ a1 _ ⟨L, q1 _ _ hL, rfl⟩ hR2 ha1 fun z w3 a3 q3' hR3 ha3 hB3 => ?_
         have hL3 := q3' _ _ (q1 _ _ hL)
         obtain ⟨_, r3, hr3, hri3⟩ := hR3.loopAt hg3 hL3
         refine hround w3 L.b _ a3 ⟨_, _, run_endRound _ hr3, ?_⟩
         refine ⟨_, rfl, z, Env.le_trans q1 q3', ?_, ?_, (hB1.trans (putObj_below hBL _)).trans (hB3.trans (putObj_below hBL _))⟩
         ·rw [eH]
          refine hR3.loopTo (r := r3) hg3 hf hL3 (fun hi => ⟨?_, rfl, hi.tmps, hi.ps, hi.asg, hi.bd, hi.dfr⟩) hr3
          show (if (pend.map Jmp.code).isNone then LoopState.ready else LoopState.done) = _
          rw [hsp]
          cases pend <;> rfl
         ·rw [hbp]
          cases pend <;> exact .v _
       cases e3 with
       | normal =>
        obtain ⟨_, l7, h8⟩ := setC_got h7
        exact ⟨_, _, _, _, h8, fin _ true .ready none rfl rfl rfl (fun w b' R a hx => hx)⟩
       | exit i =>
        obtain ⟨_, l7, h8⟩ := setC_got h7
        exact ⟨_, _, _, _, h8, fin _ false .done (some (.exit i)) rfl rfl rfl (fun w b' R a hx => hx)⟩
       | ret =>
        obtain ⟨_, l7, h8⟩ := setC_got h7
        exact ⟨_, _, _, _, h8, fin _ false .done (some .ret) rfl rfl rfl (fun w b' R a hx => hx)⟩
      ·exact (not_fail h7).elim
     ·exact (not_fail h4).elim
    ·exact (not_fail h4).elim
  ·exact (not_fail h1).elim
 ·exact (not_fail h1).elim
theorem callK_got {X : FuncId → Option (List MV → (MV → Prg) → Prg)} (hX : StandOk P B X) (hN : ∀ (f : Nat) (fn : Func), P.funcs[f]? = some fn → (fn.name == "runtime.NumGoroutine") = false) {body : Option Nat → Code → Fr → (Ex → Fr → Prg) → Prg} (hb : CodeOk P B body) : CallOk P B (callK P X body) := by
 intro f args k H c l out h
 unfold callK at h
 split at h
 ·rename_i g first caps
  split at h
  ·rename_i e0
   rw [appL_eq] at h
   refine (fun_got hX hN hb _ _ _ _ _ _ _ h).mono fun m H' hm x w fv vs hR hf hvs => .inr (.inl ?_)
   have e1 : first = #[] := by apply Array.ext'; simpa using e0
   obtain ⟨h1, h2⟩ := hm x w _ hR (hvs.append (Rnds.plain x caps.toList))
   refine ⟨g, _, ?_, h2⟩
   have ea : (vs ++ caps.toList).toArray = vs.toArray ++ caps := by apply Array.ext'; simp
   rw [ea] at h1 ⊢
   rw [hf.v_eq, e1]
   simpa [calleeSem, Deferred.ofValue, invoke] using h1
  ·exact (not_fail h).elim
 ·rename_i g caps
  rw [appL_eq] at h
  refine (fun_got hX hN hb _ _ _ _ _ _ _ h).mono fun m H' hm x w fv vs hR hf hvs => .inr (.inl ?_)
  cases hf with
  | clo hs =>
   rename_i us
   obtain ⟨h1, h2⟩ := hm x w _ hR (hvs.append hs)
   refine ⟨g, _, ?_, h2⟩
   have ea : (vs ++ us).toArray = vs.toArray ++ us.toArray := by apply Array.ext'; simp
   rw [ea] at h1 ⊢
   simpa [calleeSem, Deferred.ofValue, invoke] using h1
 ·rename_i n
  refine (yield_got hb h).mono fun m H' hm x w fv vs hR hf hvs => ?_
  cases hf with
  | yld hL => exact hm x w vs _ hR hL hvs
 ·exact (not_fail h).elim

/-! ### Loops over functions -/
theorem over_got {ln : Nat} {F' : Fr} {k : Ex → Fr → Prg} {H : Heap} {c : Nat} {l : Log} {out : MV × Heap × Nat × Log} (h : run (overK ln F' k) H c l = some out) :
  ∃ e H' l', run (k e F') H' c l' = some out ∧ ∀ (Fc : Fence) (n : Nat) x w L v Q a, Rel B x H w → x ln = some L → (∀ w', Rel B x H' w' → Below B w w' → Q e.ex a w') → rangePost Fc n P L.b Q a (.returned v) w := by
 unfold overK at h
 obtain ⟨cell, l1, hg, h1⟩ := getC_got h
 clear h
 split at h1
 ·rename_i q
  split at h1
  ·exact (not_fail h1).elim
  ·rename_i hst
   obtain ⟨hf, l2, h2⟩ := setC_got h1
   have main : ∀ (Fc : Fence) (n : Nat) x w L v Q a (e : Ex), Rel B x H w → x ln = some L → (∀ w', Rel B x (H.set ln .dead) w' → Below B w w' → (match q.pend with | none => Q .normal a w' | some j => (Jmp.code j).wpIn Fc n P Q a w')) → rangePost Fc n P L.b Q a (.returned v) w := by
    intro Fc n x w L v Q a e hR hL hQ
    obtain ⟨hBL, r, hr, hri⟩ := hR.loopAt hg hL
    have hnb : r.state ≠ .busy := by
     rw [hri.st]
     cases hq : q.st with
     | busy => exact absurd hq hst
     | ready => intro e; cases e
     | done => intro e; cases e
    refine ⟨_, _, run_endLoop hr hnb, ?_⟩
    have hR' : Rel B x (H.set ln .dead) (w.putObj L.b (.loop { r with state := .exhausted })) := hR.putC hg (fun e => by cases e) hf hL (fun k hk => World.putObj_heap_other hk) (by simp) trivial
    have := hQ _ hR' (putObj_below hBL _)
    cases hq : q.pend with
    | none =>
     have e : r.pending = none := by rw [hri.pend, hq]; rfl
     rw [hq] at this
     rw [e] at this ⊢
     exact this
    | some j =>
     have e : r.pending = some (Jmp.code j) := by rw [hri.pend, hq]; rfl
     rw [hq] at this
     rw [e] at this ⊢
     exact this
   split at h2
   ·rename_i hp
    refine ⟨.normal, _, _, h2, fun Fc n x w L v Q a hR hL hQ => main Fc n x w L v Q a .normal hR hL fun w' q1 q2 => ?_⟩
    rw [hp]
    exact hQ w' q1 q2
   ·rename_i hp
    refine ⟨.ret, _, _, h2, fun Fc n x w L v Q a hR hL hQ => main Fc n x w L v Q a .ret hR hL fun w' q1 q2 => ?_⟩
    rw [hp]
    exact wpIn_ret (hQ w' q1 q2)
   ·rename_i i hp
    refine ⟨.exit i, _, _, h2, fun Fc n x w L v Q a hR hL hQ => main Fc n x w L v Q a (.exit i) hR hL fun w' q1 q2 => ?_⟩
    rw [hp]
    exact wpIn_exit (hQ w' q1 q2)
 ·exact (not_fail h1).elim
theorem resolve_range {a : Act} {g : Operand} {gf : Nat} {caps : Array Value} (l : Nat) (hg : a.eval g = .func (.func gf) #[] caps) (w : World) : (resolve a.eval (rangeCall g l) 0).run P w = .ok { target := .fn (.func gf) caps, args := #[.func (.yield l) #[] #[]] } w := by
 simp only [resolve, hg]
 simp [go_sem]
theorem range_got {fcall : FuncId → List MV → (MV → Prg) → Prg} (hcall : FunOk P B fcall) {m : MV} {ps : Array Tmp} {asg bd : Code} {dn : Nat} {F F' : Fr} {k : Ex → Fr → Prg} {H : Heap} {c : Nat} {l : Log} {out : MV × Heap × Nat × Log} (h : run (rangeK fcall m ps.toList asg bd dn F F' k) H c l = some out) :
  ∃ e H' c' l', run (k e F') H' c' l' = some out ∧ ∀ (Fc : Fence) (n : Nat), Wd Fc → ∀ x w D a fv Q a' fn, Rel B x H w → x dn = some D → FrAt x F a → Rnd x m fv →
   (∀ y w', x.le y → Rel B y H' w' → Below B w w' → Q e.ex a' w') →
   ∃ gf caps w2, fv = .func (.func gf) #[] caps ∧ (callFunc gf (#[.func (.yield w.heap.size) #[] #[]] ++ caps)).run P w2 = .ok (.enter gf (#[.func (.yield w.heap.size) #[] #[]] ++ caps)) w2 ∧
    w2 = w.alloc (.loop { state := .ready, pending := none, fn, tmps := a.tmps, params := ps, assign := asg, body := bd, defers := D.b }) ∧
    Calls P gf (#[.func (.yield w.heap.size) #[] #[]] ++ caps) w2 (rangePost Fc n P w.heap.size Q a') := by
 unfold rangeK at h
 obtain ⟨hc, hf, l1, h1⟩ := newC_got h
 clear h
 have main : ∀ (g : Nat) (caps : List MV), run (fcall g (.yld c :: caps) fun _ => overK c F' k) (H.set c (.lp ⟨.ready, ⟨F.n, F.t, []⟩, ps.toList, asg, bd, none, dn⟩)) (c + 1) l1 = some out → (∀ x fv, Rnd x m fv → ∃ cv : List Value, fv = .func (.func g) #[] cv.toArray ∧ Rnds x caps cv) →
   ∃ e H' c' l', run (k e F') H' c' l' = some out ∧ ∀ (Fc : Fence) (n : Nat), Wd Fc → ∀ x w D a fv Q a' fn, Rel B x H w → x dn = some D → FrAt x F a → Rnd x m fv →
   (∀ y w', x.le y → Rel B y H' w' → Below B w w' → Q e.ex a' w') →
   ∃ gf caps w2, fv = .func (.func gf) #[] caps ∧ (callFunc gf (#[.func (.yield w.heap.size) #[] #[]] ++ caps)).run P w2 = .ok (.enter gf (#[.func (.yield w.heap.size) #[] #[]] ++ caps)) w2 ∧
    w2 = w.alloc (.loop { state := .ready, pending := none, fn, tmps := a.tmps, params := ps, assign := asg, body := bd, defers := D.b }) ∧
    Calls P gf (#[.func (.yield w.heap.size) #[] #[]] ++ caps) w2 (rangePost Fc n P w.heap.size Q a') := by
  intro g caps hrun hm
  obtain ⟨m2, H2, c2, l2, h2, hdo⟩ := hcall _ _ _ _ _ _ _ hrun
  obtain ⟨e, H3, l3, h3, hover⟩ := over_got (P := P) (B := B) h2
  refine ⟨e, H3, _, l3, h3, fun Fc n hW x w D a fv Q a' fn hR hD ha hfv hQ => ?_⟩
  obtain ⟨cv, rfl, hcv⟩ := hm x fv hfv
  obtain ⟨y, y1, y2, y3⟩ := hR.newC (w' := w.alloc (.loop { state := .ready, pending := none, fn, tmps := a.tmps, params := ps, assign := asg, body := bd, defers := D.b })) (d := .lp ⟨.ready, ⟨F.n, F.t, []⟩, ps.toList, asg, bd, none, dn⟩) hc hf
   (fun k hk => Below.heap_alloc w _ k hk) (by simp) 0 (fun y hy => ⟨_, World.alloc_heap_new w _, rfl, rfl, ⟨ha.tm.size, fun i => (ha.tm.ev i).le hy⟩, rfl, rfl, rfl, D, hy _ _ hD, rfl⟩)
  obtain ⟨q1, q2⟩ := hdo y _ (.func (.yield w.heap.size) #[] #[] :: cv) y3 (.cons (.yld y2) (hcv.le y1))
  have ea : (Value.func (.yield w.heap.size) #[] #[] :: cv).toArray = #[.func (.yield w.heap.size) #[] #[]] ++ cv.toArray := by apply Array.ext'; simp
  rw [ea] at q1 q2
  refine ⟨g, cv.toArray, _, rfl, q1, rfl, q2.mono fun e' w' ⟨v, he, z, z1, z2, _, z4⟩ => ?_⟩
  subst he
  exact hover Fc n z w' _ v Q a' z2 (z1 _ _ y2) fun w'' r1 r2 => hQ z w'' (Env.le_trans y1 z1) r1 (((Below.refl B w).alloc hR.base _).trans (z4.trans r2))
 split at h1
 ·rename_i g first caps
  split at h1
  ·rename_i e0
   have e1 : first = #[] := by apply Array.ext'; simpa using e0
   exact main g _ h1 fun x fv hfv => ⟨caps.toList, by rw [hfv.v_eq, e1], Rnds.plain x _⟩
  ·exact (not_fail h1).elim
 ·rename_i g caps
  exact main g _ h1 fun x fv hfv => by cases hfv with | clo hs => exact ⟨_, rfl, hs⟩
 ·exact (not_fail h1).elim
end Go.Proofs.YtbbbflnnbbaamaaGreatDoor.Mini
