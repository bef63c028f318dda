/- Packed of several texts. -/
import Derived.Test.YtbbbflnnbbaamaaGreatDoorH07
import Derived.LoopNIn
import Derived.RangeFuncLeaves
import Derived.RangeFuncNested
namespace Go.Proofs.YtbbbflnnbbaamaaGreatDoor.Mini
open Go.RowKit

variable {P : Program} {B : Nat}
theorem stepR_scope' {b : Frame} {a : Act} {k : List Item} {cs : List Frame} {w : World} {c : Code} : step P (lone (b.atR a (.code (.scope c) :: k)) cs w) = .next (lone (b.atR a (.code c :: .inScope c :: k)) cs w) :=
 step_lone_go (by simp [stepG, stepG.exec, Frame.atR])
theorem stepR_inScope' {b : Frame} {a : Act} {k : List Item} {cs : List Frame} {w : World} {c : Code} : step P (lone (b.atR a (.inScope c :: k)) cs w) = .next (lone (b.atR a k) cs w) :=
 step_lone_go (by simp [stepG, stepG.exec, Frame.atR])
def noGoto (Q : Exit → Act → World → Prop) : Exit → Act → World → Prop
 | .goto _, _, _ => False
 | e, a, w => Q e a w
theorem wpIn_scope' {F : Fence} {n : Nat} {Q : Exit → Act → World → Prop} {a : Act} {w : World} {c : Code} (h : c.wpIn F n P (noGoto Q) a w) : (Code.scope c).wpIn F n P Q a w := by
 intro b k cs hro hb hr
 have h0 : (lone (b.atR a (.code (.scope c) :: k)) cs w).fenced P F := fenced_calm hb hr rfl
 obtain ⟨e, a₁, w₁, hq, harr⟩ := h b (.inScope c :: k) cs hro hb hr
 cases e with
 | normal => exact ⟨.normal, a₁, w₁, hq, .head h0 stepR_scope' (StepsIn.trans harr (.one (fenced_calm hb hr rfl) stepR_inScope'))⟩
 | exit id =>
  have hx : exitTo id (.inScope c :: k) = exitTo id k := by simp [exitTo]
  exact ⟨.exit id, a₁, w₁, hq, fun k' hk => .head h0 stepR_scope' (harr.1 k' (by rw [hx]; exact hk)),
   fun hr' hk => let ⟨k₁, h1, h2⟩ := harr.2 hr' (by rw [hx]; exact hk); ⟨k₁, h1, .head h0 stepR_scope' h2⟩⟩
 | goto l => exact hq.elim
 | ret => exact ⟨_, a₁, w₁, hq, .of_steps (.one h0 stepR_scope') harr⟩
 | panic ch => exact ⟨_, a₁, w₁, hq, .of_steps (.one h0 stepR_scope') harr⟩
 | outgrown => exact ⟨_, a₁, w₁, hq, .of_steps (.one h0 stepR_scope') harr⟩

/-! ### A region, as it was reckoned -/
def accOf (items : List Itm) : List (Nat × Log) := items.filterMap fun it => match it.L with | [] => none | e :: l => some (it.i, e :: l)
def RegRan (P : Program) (call : MV → List MV → (MV → Prg) → Prg) (ops : Array Oper) (rest : List Oper) (j : Nat) (F : Fr) (acc : List (Nat × Log)) (k : Fr → List (Nat × Log) → Prg) (H : Heap) (out : MV × Heap × Nat × Log) : Prop :=
 ∃ items F' H' c' l', run (k F' ((accOf items).reverse ++ acc)) H' c' l' = some out ∧ Ran P call ops items F H F' H' ∧ items.map (·.o) = rest ∧ ∀ (t : Nat) (it : Itm), items[t]? = some it → it.i = j + t
theorem regD_ran {call : MV → List MV → (MV → Prg) → Prg} {ops : Array Oper} : ∀ (rest : List Oper) (j : Nat) (F : Fr) (acc : List (Nat × Log)) (k : Fr → List (Nat × Log) → Prg) (H : Heap) (c : Nat) (l : Log) (out : MV × Heap × Nat × Log),
  run (regDK P call ops rest j F acc k) H c l = some out → RegRan P call ops rest j F acc k H out
 | [], j, F, acc, k, H, c, l, out, h => ⟨[], F, H, c, l, h, ⟨rfl, rfl⟩, rfl, fun t it h => by simp at h⟩
 | o :: rest, j, F, acc, k, H, c, l, out, h => by
  unfold regDK at h
  split at h
  ·rename_i hw
   unfold run at h
   cases hr : run (opK P call F o .ret) H c [] with
   | none => rw [hr] at h; cases h
   | some q =>
    obtain ⟨m, H1, c1, L⟩ := q
    rw [hr] at h
    dsimp only at h
    obtain ⟨hf, h2⟩ := run_putK h
    have main : ∀ acc1, acc1 = (accOf [⟨j, o, c, c1, m, L⟩]).reverse ++ acc → run (regDK P call ops rest (Nat.succ j) (F.put o.dst m) acc1 k) H1 c1 (L ++ l) = some out → RegRan P call ops (o :: rest) j F acc k H out := fun acc1 e h3 => by
     obtain ⟨items, F', H', c', l', h4, h5, h6, h7⟩ := regD_ran rest (Nat.succ j) _ acc1 k _ _ _ _ h3
     refine ⟨⟨j, o, c, c1, m, L⟩ :: items, F', H', c', l', ?_, ⟨hf, .inl ⟨hw, H1, hr, h5⟩⟩, by simp [h6], fun t it ht => ?_⟩
     ·subst e
      have e2 : (accOf (⟨j, o, c, c1, m, L⟩ :: items)).reverse ++ acc = (accOf items).reverse ++ ((accOf [⟨j, o, c, c1, m, L⟩]).reverse ++ acc) := by
       have : accOf (⟨j, o, c, c1, m, L⟩ :: items) = accOf [⟨j, o, c, c1, m, L⟩] ++ accOf items := by
        unfold accOf
        rw [← List.filterMap_append]
        rfl
       rw [this, List.reverse_append, List.append_assoc]
      rw [e2]
      exact h4
     ·cases t with
      | zero => simp at ht; subst ht; rfl
      | succ t => rw [h7 t it (by simpa using ht)]; omega
    cases L with
    | nil => exact main acc (by simp [accOf]) h2
    | cons e L => exact main _ (by simp [accOf]) h2
  ·rename_i hw
   obtain ⟨hf, h2⟩ := run_putK h
   obtain ⟨items, F', H', c', l', h4, h5, h6, h7⟩ := regD_ran rest (Nat.succ j) _ acc k _ _ _ _ h2
   refine ⟨⟨j, o, 0, 0, MV.undef, []⟩ :: items, F', H', c', l', ?_, ⟨hf, .inr ⟨hw, rfl, rfl, h5⟩⟩, by simp [h6], fun t it ht => ?_⟩
   ·have : accOf (⟨j, o, 0, 0, MV.undef, []⟩ :: items) = accOf items := by simp [accOf]
    rw [this]
    exact h4
   ·cases t with
    | zero => simp at ht; subst ht; rfl
    | succ t => rw [h7 t it (by simpa using ht)]; omega
theorem logsOk1_spec {M : List Nat} {j : Nat} {L : Log} : ∀ (l : List (Nat × Log)), logsOk1 M j L l = true → ∀ q ∈ l, bitAt (M.getD j 0) q.1 = true ∨ Apart q.2 L
 | [], _, q, hq => by cases hq
 | (i, K) :: rest, h, q, hq => by
  unfold logsOk1 at h
  rw [Bool.and_eq_true, Bool.or_eq_true] at h
  rcases List.mem_cons.1 hq with rfl | hq
  ·exact h.1.imp id logsApart_spec
  ·exact logsOk1_spec rest h.2 q hq
theorem logsOk_spec {M : List Nat} : ∀ (l : List (Nat × Log)), logsOk M l = true → l.Pairwise fun a b => bitAt (M.getD a.1 0) b.1 = true ∨ Apart b.2 a.2
 | [], _ => List.Pairwise.nil
 | (j, L) :: rest, h => by
  unfold logsOk at h
  rw [Bool.and_eq_true] at h
  exact List.pairwise_cons.2 ⟨fun q hq => logsOk1_spec rest h.1 q hq, logsOk_spec rest h.2⟩
theorem staticOk1_spec {ops : Array Oper} {M : List Nat} {j : Nat} {oj : Oper} : ∀ (pre : List Oper) (i : Nat), staticOk1 ops M j oj pre i = true → ∀ s os, pre[s]? = some os → bitAt (M.getD j 0) (i + s) = true ∨ os.apart ops oj = true
 | [], i, _, s, os, h => by simp at h
 | o :: pre, i, h, s, os, hs => by
  unfold staticOk1 at h
  rw [Bool.and_eq_true, Bool.or_eq_true] at h
  cases s with
  | zero => simp at hs; subst hs; exact h.1
  | succ s =>
   have := staticOk1_spec pre (i + 1) h.2 s os (by simpa using hs)
   rwa [show i + (s + 1) = i + 1 + s by omega]
theorem staticGo_spec {ops : Array Oper} {M : List Nat} : ∀ (l pre : List Oper) (j : Nat), pre.length = j → staticGo ops M pre l j = true → ∀ t ot, l[t]? = some ot → edgesIn ot (j + t) = true ∧ ∀ s os, (pre ++ l)[s]? = some os → s < j + t → bitAt (M.getD (j + t) 0) s = true ∨ os.apart ops ot = true
 | [], pre, j, _, _, t, ot, h => by simp at h
 | o :: l, pre, j, hl, h, t, ot, ht => by
  unfold staticGo at h
  rw [Bool.and_eq_true, Bool.and_eq_true] at h
  cases t with
  | zero =>
   simp at ht
   subst ht
   refine ⟨h.1.1, fun s os hs hlt => ?_⟩
   have := staticOk1_spec pre 0 h.1.2 s os (by rw [List.getElem?_append_left (by omega)] at hs; exact hs)
   rwa [Nat.zero_add] at this
  | succ t =>
   obtain ⟨h1, h2⟩ := staticGo_spec l (pre ++ [o]) (j + 1) (by simp; omega) h.2 t ot (by simpa using ht)
   refine ⟨by rwa [show j + (t + 1) = j + 1 + t by omega], fun s os hs hlt => ?_⟩
   have := h2 s os (by simpa using hs) (by omega)
   rwa [show j + (t + 1) = j + 1 + t by omega]
theorem static_spec {ops : Array Oper} (h : staticOk ops = true) : (∀ j o, ops[j]? = some o → ∀ e ∈ o.after, Region.binds .any e = true → e.on < j) ∧
  ∀ s t os ot, s < t → ops[s]? = some os → ops[t]? = some ot → bitAt ((maskGo ops.toList []).getD t 0) s = true ∨ os.apart ops ot = true := by
 have := staticGo_spec ops.toList [] 0 rfl h
 refine ⟨fun j o ho e he hb => ?_, fun s t os ot hst hs ht => ?_⟩
 ·have h1 := (this j o (by simpa using ho)).1
  unfold edgesIn at h1
  have := List.all_eq_true.1 h1 e (by simpa using he)
  rw [hb] at this
  simpa using this
 ·have := (this t ot (by simpa using ht)).2 s os (by simpa using hs) (by omega)
  simpa using this
theorem rem_start {ops : Array Oper} (hs : staticOk ops = true) {items : List Itm} (hl : logsOk (maskGo ops.toList []) (accOf items).reverse = true) (ho : items.map (·.o) = ops.toList) (hi : ∀ (t : Nat) (it : Itm), items[t]? = some it → it.i = 0 + t) : Rem ops (Array.replicate ops.size false) items := by
 obtain ⟨h1, h2⟩ := static_spec hs
 have hat : ∀ (t : Nat) (it : Itm), items[t]? = some it → it.i = t ∧ ops[t]? = some it.o := fun t it ht => by
  refine ⟨by rw [hi t it ht]; omega, ?_⟩
  have : (items.map (·.o))[t]? = some it.o := by rw [List.getElem?_map, ht]; rfl
  rw [ho] at this
  simpa using this
 have hp := logsOk_spec _ hl
 rw [List.pairwise_reverse] at hp
 unfold accOf at hp
 rw [List.pairwise_filterMap] at hp
 refine ⟨?_, fun it hit => ?_, fun j o hj hl => ?_, by simp, fun j o hj hl => ?_⟩
 ·rw [List.pairwise_iff_getElem] at hp ⊢
  intro s t hs' ht' hst
  obtain ⟨a1, a2⟩ := hat s items[s] (List.getElem?_eq_getElem hs')
  obtain ⟨b1, b2⟩ := hat t items[t] (List.getElem?_eq_getElem ht')
  refine ⟨by omega, ?_⟩
  have hlog : bitAt ((maskGo ops.toList []).getD items[t].i 0) items[s].i = true ∨ Apart items[s].L items[t].L := by
   cases e1 : items[s].L with
   | nil => exact .inr (apart_nil_left _)
   | cons x l1 =>
    cases e2 : items[t].L with
    | nil => exact .inr (apart_nil_right _)
    | cons y l2 =>
     have := hp s t hs' ht' hst (items[s].i, x :: l1) (by rw [e1]) (items[t].i, y :: l2) (by rw [e2])
     exact this
  rcases hlog with hb | hb
  ·exact .inl hb
  ·rcases h2 s t _ _ hst a2 b2 with hc | hc
   ·rw [a1, b1]; exact .inl hc
   ·exact .inr ⟨hc, hb⟩
 ·obtain ⟨t, ht⟩ := List.getElem?_of_mem hit
  obtain ⟨a1, a2⟩ := hat t it ht
  refine ⟨by rw [a1]; exact a2, ?_⟩
  have hlt : it.i < ops.size := by rw [a1]; exact (Array.getElem?_eq_some_iff.1 a2).1
  simp [Array.getD, hlt]
 ·have hlt : j < ops.size := (Array.getElem?_eq_some_iff.1 hj).1
  have hlen : items.length = ops.size := by
   have := congrArg List.length ho
   simpa using this
  exact ⟨items[j], List.getElem_mem _, (hat j items[j] (List.getElem?_eq_getElem (by omega))).1⟩
 ·have hlt : j < ops.size := (Array.getElem?_eq_some_iff.1 hj).1
  exfalso
  simp [Array.getD, hlt] at hl
end Go.Proofs.YtbbbflnnbbaamaaGreatDoor.Mini
namespace Go.Proofs.YtbbbflnnbbaamaaGreatDoor.Mini
open Go.RowKit

variable {P : Program} {B : Nat}
def Ex.ex : Ex → Exit
 | .normal => .normal
 | .exit i => .exit i
 | .ret => .ret
def RdAt (x : Env) (rd ro : Option Nat) : Prop :=
 match rd with
 | none => ro = none
 | some n => ∃ L, x n = some L ∧ ro = some L.b
theorem RdAt.le {x y : Env} {rd ro : Option Nat} (h : RdAt x rd ro) (hl : x.le y) : RdAt y rd ro := by
 cases rd with
 | none => exact h
 | some n => obtain ⟨L, h1, h2⟩ := h; exact ⟨L, hl _ _ h1, h2⟩
def StretchDoes (B : Nat) (rd : Option Nat) (S : Fence → Nat → (Exit → Act → World → Prop) → Act → World → Prop) (F : Fr) (H : Heap) (e : Ex) (F' : Fr) (H' : Heap) : Prop :=
 ∀ (Fc : Fence) (n : Nat), Wd Fc → ∀ x w a Q, RdAt x rd Fc.round → Rel B x H w → FrAt x F a → (∀ y w' a', x.le y → Rel B y H' w' → FrAt y F' a' → Below B w w' → Q e.ex a' w') → S Fc n Q a w
def CodeDoes (P : Program) (B : Nat) (rd : Option Nat) (c : Code) (F : Fr) (H : Heap) (e : Ex) (F' : Fr) (H' : Heap) : Prop := StretchDoes B rd (fun Fc n Q a w => c.wpIn Fc n P Q a w) F H e F' H'
def LoopDoes (P : Program) (B : Nat) (rd : Option Nat) (c : Code) (F : Fr) (H : Heap) (e : Ex) (F' : Fr) (H' : Heap) : Prop :=
 ∀ b, c = .loop b → ∃ m, StretchDoes B rd (fun Fc n Q a w => Code.roundsIn Fc n P b Q m a w) F H e F' H'
def CodeOk (P : Program) (B : Nat) (body : Option Nat → Code → Fr → (Ex → Fr → Prg) → Prg) : Prop :=
 ∀ rd c F k H cn l out, run (body rd c F k) H cn l = some out → ∃ e F' H' c' l', run (k e F') H' c' l' = some out ∧ CodeDoes P B rd c F H e F' H' ∧ LoopDoes P B rd c F H e F' H'
def StandOk (P : Program) (B : Nat) (X : FuncId → Option (List MV → (MV → Prg) → Prg)) : Prop :=
 ∀ f g, X f = some g → ∀ args k H c l out, run (g args k) H c l = some out → Got k out fun m H' => CallDoes P B f args m H H'
def FunOk (P : Program) (B : Nat) (call : FuncId → List MV → (MV → Prg) → Prg) : Prop :=
 ∀ f args k H c l out, run (call f args k) H c l = some out → Got k out fun m H' => CallDoes P B f args m H H'
def resSem (tmps : Array Value) : ResultVar → Sem Value
 | .tmp t => pure (tmps.getD t Go.undef)
 | .cell d t => do loadVar t (← asAddr (tmps.getD d Go.undef))
theorem results_eq (fn : Func) (tmps : Array Value) : results fn tmps = (do
  let vs ← fn.results.mapM (resSem tmps)
  pure (if h : vs.size = 1 then vs[0] else .tuple vs)) := by
 unfold results
 congr 1
theorem resK_got {F : Fr} : ∀ (rs : List ResultVar) (k : List MV → Prg) (H : Heap) (c : Nat) (l : Log) (out : MV × Heap × Nat × Log), run (resK P F rs k) H c l = some out →
  ∃ ms c' l', run (k ms) H c' l' = some out ∧ ∀ x tmps w, Rel B x H w → FrT x F tmps → ∃ vs, (rs.mapM (resSem tmps)).run P w = .ok vs w ∧ Rnds x ms vs
 | [], k, H, c, l, out, h => ⟨[], c, l, h, fun x a w _ _ => ⟨[], by simp, .nil⟩⟩
 | .tmp t :: rs, k, H, c, l, out, h => by
  unfold resK at h
  rw [evK_eq] at h
  obtain ⟨ms, c', l', h1, h2⟩ := resK_got rs _ _ _ _ _ h
  refine ⟨_ :: ms, c', l', h1, fun x a w hR ha => ?_⟩
  obtain ⟨vs, h3, h4⟩ := h2 x a w hR ha
  exact ⟨_, by simp only [List.mapM_cons, resSem, pure_bind, Sem.run_bind, h3, Result.andThen_ok, Sem.run_pure], .cons (ha.ev t) h4⟩
 | .cell d t :: rs, k, H, c, l, out, h => by
  unfold resK at h
  rw [evK_eq] at h
  obtain ⟨m, H1, c1, l1, h1, e, h2⟩ := loadK_got (B := B) h
  subst e
  obtain ⟨ms, c', l', h3, h4⟩ := resK_got rs _ _ _ _ _ h1
  refine ⟨m :: ms, c', l', h3, fun x a w hR ha => ?_⟩
  obtain ⟨vs, h5, h6⟩ := h4 x a w hR ha
  obtain ⟨u, h7, h8⟩ := h2 x w _ hR (ha.ev d)
  have hp : ∃ A, a.getD d Go.undef = .pointer (some A) := by
   have hev : Rnd x (F.ev (.tmp d)) (a.getD d Go.undef) := ha.ev d
   unfold loadK at h
   split at h
   ·rename_i e
    rw [e] at hev
    generalize hq : a.getD d Go.undef = pv at hev
    cases hev
    exact ⟨_, rfl⟩
   ·exact (not_fail h).elim
  obtain ⟨A, hA⟩ := hp
  have h9 : (resSem a (.cell d t)).run P w = .ok u w := by
   rw [hA] at h7
   simp only [Instr.loadAt, Instr.sureAddr, Sem.run_bind, Sem.run_pure, Result.andThen_ok] at h7
   simp only [resSem, hA, asAddr, Sem.run_bind, Sem.run_pure, Result.andThen_ok, h7]
  exact ⟨u :: vs, by simp only [List.mapM_cons, Sem.run_bind, h9, h5, Result.andThen_ok, Sem.run_pure], .cons h8 h6⟩
def oneOr : List Value → Value
 | [v] => v
 | vs => .tuple vs.toArray
theorem results_run {fn : Func} {tmps : Array Value} {w : World} {vs : List Value} (h : (fn.results.toList.mapM (resSem tmps)).run P w = .ok vs w) :
  (results fn tmps).run P w = .ok (oneOr vs) w := by
 rw [results_eq, Array.mapM_eq_mapM_toList]
 simp only [Sem.run_bind, map_eq_pure_bind, Sem.run_pure]
 have h' := h
 rw [h']
 simp only [Result.andThen_ok]
 match vs with
 | [] => rfl
 | [v] => rfl
 | v :: u :: vs => rfl
theorem shut_got : ∀ (ns : List Nat) (k : Prg) (H : Heap) (c : Nat) (l : Log) (out : MV × Heap × Nat × Log), run (shutK ns k) H c l = some out →
  ∃ H' l', run k H' c l' = some out ∧ ∀ (fn : Func) (tmps : Array Value) (R : Ending → World → Prop) x w ds, Rel B x H w → Marks x ns ds → (∀ w', Rel B x H' w' → Below B w w' → ∃ v, (results fn tmps).run P w' = .ok v w' ∧ R (.returned v) w') → LeavesInM Fence.wide 0 P fn tmps R ds .returning w
 | [], k, H, c, l, out, h => ⟨H, l, h, fun fn tmps R x w ds hR hm hK => by
  cases hm
  exact hK w hR (Below.refl B w)⟩
 | n :: ns, k, H, c, l, out, h => by
  unfold shutK at h
  obtain ⟨cell, l1, hg, h1⟩ := getC_got h
  clear h
  split at h1
  ·obtain ⟨hf, l2, h2⟩ := setC_got h1
   obtain ⟨H', l', h3, h4⟩ := shut_got ns k _ _ _ _ h2
   refine ⟨H', l', h3, fun fn tmps R x w ds hR hm hK => ?_⟩
   cases hm with
   | cons hL hs =>
    rename_i L ds
    obtain ⟨L', g1, g2, g3, g4⟩ := hR.live n _ hg (fun e => by cases e)
    rw [hL] at g1; cases g1
    refine ⟨fun e => (by cases e), .inl ⟨L.b, _, rfl, run_takeDeferred g4, ?_⟩⟩
    exact h4 fn tmps R x _ ds (hR.putC hg (fun e => by cases e) hf hL (fun k hk => World.putObj_heap_other hk) (by simp) trivial) hs fun w' q1 q2 => hK w' q1 ((putObj_below g2 _).trans q2)
  ·exact (not_fail h1).elim
theorem fun_got {X : FuncId → Option (List MV → (MV → Prg) → Prg)} (hX : StandOk P B X) (hN : ∀ (f : Nat) (fn : Func), P.funcs[f]? = some fn → (fn.name == "runtime.NumGoroutine") = false) {body : Option Nat → Code → Fr → (Ex → Fr → Prg) → Prg} (hb : CodeOk P B body) : FunOk P B (funK P X body) := by
 intro f args k H c l out h
 unfold funK at h
 split at h
 ·rename_i g hg
  exact hX f g hg args k H c l out h
 ·split at h
  ·exact (not_fail h).elim
  ·rename_i fn hfn
   split at h
   ·exact (not_fail h).elim
   ·rename_i cd hcd
    rw [forceN_eq] at h
    split at h
    ·rename_i hle hfar
     have hle := ble_le hle
     have hfar := near_of_ble hfar
     rw [fillK_fill] at h
     obtain ⟨e, F', H', c', l', h1, h2, _⟩ := hb _ _ _ _ _ _ _ _ h
     have main : run (shutK F'.marks (resK P F' fn.results.toList fun ms => match ms with | [m] => k m | [] => k (.v (.tuple #[])) | m :: n :: ms => k (.tup (m :: n :: ms)))) H' c' l' = some out → (e.ex = .normal ∨ e.ex = .ret) → Got k out fun m H' => CallDoes P B f args m H H' := by
      intro h0 he
      obtain ⟨H2, l2, h3, hsh⟩ := shut_got (P := P) (B := B) _ _ _ _ _ _ h0
      obtain ⟨ms, c3, l3, h4, h5⟩ := resK_got (P := P) (B := B) _ _ _ _ _ _ h3
      have fin : ∀ m, run (k m) H2 c3 l3 = some out → (∀ x vs, Rnds x ms vs → Rnd x m (oneOr vs)) → Got k out fun m H' => CallDoes P B f args m H H' := by
       intro m hk hm
       refine ⟨m, H2, c3, l3, hk, fun x w vs hR hvs => ⟨?_, ?_⟩⟩
       ·have hn := hN f fn hfn
        simp [callFunc, hfn, hcd]
        simpa using hn
       ·refine callsIn_wide.1 (callsIn_of_wp_marks (n := 0) hfn hcd trivial ?_)
        refine h2 Fence.wide 0 Wd.wide x w _ _ rfl hR ⟨.nil, ?_, fun i => ?_⟩ fun y w' a' hy hR' ha' hB => ?_
        ·have := hvs.length
         simp
         omega
        ·rw [get_fill _ _ _ _ (by omega)]
         have hl := hvs.length
         by_cases hi : i < args.length
         ·rw [if_pos (by omega), Nat.sub_zero, List.getElem?_eq_getElem hi]
          obtain ⟨v, q1, q2⟩ := hvs.get i args[i] (List.getElem?_eq_getElem hi)
          have : (vs.toArray ++ Array.replicate (fn.ntmps - vs.toArray.size) Go.undef).getD i Go.undef = v := by
           rw [Array.getD_eq_getD_getElem?, Array.getElem?_append_left (by simp; omega)]
           simp [q1]
          rw [this]
          exact q2
         ·rw [if_neg (by omega), T.get_nil]
          have : (vs.toArray ++ Array.replicate (fn.ntmps - vs.toArray.size) Go.undef).getD i Go.undef = Go.undef := by
           rw [Array.getD_eq_getD_getElem?, Array.getElem?_append_right (by simp; omega), Array.getElem?_replicate]
           split <;> rfl
          rw [this]
          exact .v _
        ·have hleave : LeavesInM Fence.wide 0 P fn a'.tmps (fun e w'' => ∃ v, e = .returned v ∧ Post B x H2 m w v w'') a'.defers .returning w' := by
          refine hsh fn a'.tmps _ y w' a'.defers hR' ha'.dfr fun w2 r1 r2 => ?_
          obtain ⟨us, s1, s2⟩ := h5 y a'.tmps w2 r1 ha'.tm
          exact ⟨_, results_run (P := P) s1, _, rfl, y, hy, r1, hm y us s2, hB.trans r2⟩
         rcases he with he | he
         ·rw [he]; exact hleave
         ·rw [he]; exact hleave
      split at h4
      ·refine fin _ h4 fun x vs hvs => ?_
       cases hvs with
       | cons q1 q2 => cases q2; exact q1
      ·refine fin _ h4 fun x vs hvs => ?_
       cases hvs
       exact .v _
      ·refine fin _ h4 fun x vs hvs => ?_
       cases hvs with
       | cons q1 q2 =>
        cases q2 with
        | cons q3 q4 => exact .tup (.cons q1 (.cons q3 q4))
     cases e with
     | normal => exact main h1 (.inl rfl)
     | exit i => exact (not_fail h1).elim
     | ret => exact main h1 (.inr rfl)
    ·exact (not_fail h).elim
end Go.Proofs.YtbbbflnnbbaamaaGreatDoor.Mini
