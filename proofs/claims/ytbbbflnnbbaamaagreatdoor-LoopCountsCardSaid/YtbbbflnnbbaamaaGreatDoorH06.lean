/- Packed of several texts. -/
import Derived.Test.YtbbbflnnbbaamaaGreatDoorH05
import Derived.OrdersIn
import Derived.TacticsIn
import Derived.RangeFuncCalls
namespace Go.Proofs.YtbbbflnnbbaamaaGreatDoor.Mini
open Go.RowKit

variable {P : Program} {B : Nat}
structure Wd (Fc : Fence) : Prop where
 fn : ∀ f, Fc.fn f
 dep : Fc.depth = none
 call : ∀ (n : Nat) (P : Program) (f : FuncId) (args : Array Value) (w : World) (R : Ending → World → Prop), Calls P f args w R → CallsIn Fc n P f args w R
theorem Wd.wide : Wd Fence.wide := ⟨fun _ => trivial, rfl, fun _ _ _ _ _ _ h => callsIn_wide.2 h⟩
theorem Wd.inRound {Fc : Fence} (h : Wd Fc) (l : Nat) : Wd (Fc.inRound l) := ⟨h.fn, h.dep, fun n P f args w R hc => (h.call n P f args w R hc).inRound l⟩
def CallDoes (P : Program) (B : Nat) (f : FuncId) (args : List MV) (m : MV) (H H' : Heap) : Prop :=
 ∀ x w vs, Rel B x H w → Rnds x args vs → (callFunc f vs.toArray).run P w = .ok (.enter f vs.toArray) w ∧ Calls P f vs.toArray w fun e w' => ∃ v, e = .returned v ∧ Post B x H' m w v w'
def NextDoes (P : Program) (B : Nat) (x : Env) (H' : Heap) (m : MV) (w : World) (s : Sem Next) : Prop :=
 (∃ v w', (s.run P w = .ok (.value v) w' ∨ (s.run P w = .ok .skip w' ∧ v = Go.undef)) ∧ Post B x H' m w v w') ∨
 (∃ f args, s.run P w = .ok (.enter f args) w ∧ Calls P f args w fun e w' => ∃ v, e = .returned v ∧ Post B x H' m w v w') ∨
 ∃ l f tmps asg bd, s.run P w = .ok (.round l f tmps asg bd) w ∧ ∀ Fc n, Wd Fc → RoundIn Fc n P l f tmps asg bd w fun e w' => ∃ v, e = .returned v ∧ Post B x H' m w v w'
def calleeSem (fv : Value) (args : Array Value) : Sem Next := do let d ← Deferred.ofValue fv args; invoke d.target d.args
def CallOk (P : Program) (B : Nat) (call : MV → List MV → (MV → Prg) → Prg) : Prop :=
 ∀ f args k H c l out, run (call f args k) H c l = some out → Got k out fun m H' => ∀ x w fv vs, Rel B x H w → Rnd x f fv → Rnds x args vs → NextDoes P B x H' m w (calleeSem fv vs.toArray)
def OpDoes (P : Program) (B : Nat) (o : Oper) (F : Fr) (m : MV) (H H' : Heap) : Prop :=
 ∀ x w (ρ : Operand → Value), Rel B x H w → (∀ y, Rnd x (F.ev y) (ρ y)) → NextDoes P B x H' m w (execOp ρ o)
theorem map_rnds {x : Env} {F : Fr} {ρ : Operand → Value} (h : ∀ y, Rnd x (F.ev y) (ρ y)) : ∀ (l : List Operand), Rnds x (l.map F.ev) (l.map ρ)
 | [] => .nil
 | y :: l => .cons (h y) (map_rnds h l)
theorem evps_parts {x : Env} {F : Fr} {ρ : Operand → Value} (h : ∀ y, Rnd x (F.ev y) (ρ y)) : ∀ (l : List (Nat × Operand)), Parts x (evps F l) (l.map fun (i, y) => (i, ρ y))
 | [] => .nil
 | (_, y) :: l => .cons (h y) (evps_parts h l)
theorem OpDoes.val {o : Oper} {F : Fr} {m : MV} {H H' : Heap} (h : ∀ x w (ρ : Operand → Value), Rel B x H w → (∀ y, Rnd x (F.ev y) (ρ y)) → ∃ v w', (execOp ρ o).run P w = .ok (.value v) w' ∧ Post B x H' m w v w') : OpDoes P B o F m H H' :=
 fun x w ρ hR hρ => let ⟨v, w', h1, h2⟩ := h x w ρ hR hρ; .inl ⟨v, w', .inl h1, h2⟩
theorem op_got {call : MV → List MV → (MV → Prg) → Prg} (hcall : CallOk P B call) {F : Fr} {o : Oper} {k : MV → Prg} {H : Heap} {c : Nat} {l : Log} {out : MV × Heap × Nat × Log} (h : run (opK P call F o k) H c l = some out) :
  Got k out fun m H' => OpDoes P B o F m H H' := by
 obtain ⟨dst, op, ty, pos, after, guard⟩ := o
 unfold opK at h
 cases op <;> dsimp only at h
 case move y =>
  rw [evK_eq] at h
  exact ⟨_, _, _, _, h, OpDoes.val fun x w ρ hR hρ => ⟨ρ y, w, by simp [execOp], Post.still hR (hρ y)⟩⟩
 case assign y =>
  rw [evK_eq] at h
  exact ⟨_, _, _, _, h, OpDoes.val fun x w ρ hR hρ => ⟨ρ y, w, by simp [execOp], Post.still hR (hρ y)⟩⟩
 case pick y a b =>
  unfold pickK at h
  rw [evK_eq] at h
  split at h
  ·rename_i e
   rw [evK_eq] at h
   refine ⟨_, _, _, _, h, OpDoes.val fun x w ρ hR hρ => ⟨ρ a, w, ?_, Post.still hR (hρ a)⟩⟩
   have hy := hρ y
   rw [e] at hy
   simp [execOp, hy.v_eq, asBool]
  ·rename_i e
   rw [evK_eq] at h
   refine ⟨_, _, _, _, h, OpDoes.val fun x w ρ hR hρ => ⟨ρ b, w, ?_, Post.still hR (hρ b)⟩⟩
   have hy := hρ y
   rw [e] at hy
   simp [execOp, hy.v_eq, asBool]
  ·exact (not_fail h).elim
 case alloc t =>
  unfold allocK at h
  split at h
  ·rename_i i hi
   split at h
   ·rename_i z hz
    rw [strictK_eq] at h
    refine (boxK_got (B := B) h).mono fun m H' hm => OpDoes.val fun x w ρ hR hρ => ?_
    have := hm x w z.cells.toList hR (Rnd.v z).cells
    exact ⟨.pointer (some ⟨w.heap.size, 0, none⟩), w.alloc (.cells z.cells t), by simp [execOp, Instr.alloc, zeroValue, typeInfo, hi, hz, newVar, Go.newRow], by simpa using this⟩
   ·exact (not_fail h).elim
  ·exact (not_fail h).elim
 case box t y =>
  unfold boxOpK at h
  rw [evK_eq, strictK_eq] at h
  refine (boxK_got (B := B) h).mono fun m H' hm => OpDoes.val fun x w ρ hR hρ => ?_
  have := hm x w (ρ y).cells.toList hR (hρ y).cells
  exact ⟨.pointer (some ⟨w.heap.size, 0, none⟩), w.alloc (.cells (ρ y).cells t), by simp [execOp, Instr.box, newVar, Go.newRow], by simpa using this⟩
 case build t parts =>
  unfold buildOpK at h
  split at h
  ·rename_i cs hcs
   rw [strictK_eq] at h
   refine ⟨_, _, _, _, h, OpDoes.val fun x w ρ hR hρ => ?_⟩
   obtain ⟨a, h1, h2⟩ := build_sim hcs (evps_parts hρ parts.toList) w
   refine ⟨.agg a, w, ?_, Post.still hR (by have := Rnd.agg h2; simpa using this)⟩
   have e : (parts.map fun (i, y) => (i, ρ y)) = (parts.toList.map fun (i, y) => (i, ρ y)).toArray := by apply Array.ext'; simp
   simp only [execOp]
   rw [e]
   simp [h1]
  ·exact (not_fail h).elim
 case buildSlice t len parts =>
  refine (buildSliceK_got (B := B) h).mono fun m H' hm => OpDoes.val fun x w ρ hR hρ => ?_
  obtain ⟨v, w', h1, h2⟩ := hm x w _ hR (evps_parts hρ parts.toList)
  refine ⟨v, w', ?_, h2⟩
  have e : (parts.map fun (i, y) => (i, ρ y)) = (parts.toList.map fun (i, y) => (i, ρ y)).toArray := by apply Array.ext'; simp
  simp only [execOp]
  rw [e]
  simp [h1]
 case load t y =>
  unfold loadOpK at h
  rw [evK_eq] at h
  refine (loadK_got (B := B) h).mono fun m H' ⟨e, hm⟩ => OpDoes.val fun x w ρ hR hρ => ?_
  subst e
  obtain ⟨u, h1, h2⟩ := hm x w _ hR (hρ y)
  exact ⟨u, w, by simp [execOp, h1], Post.still hR h2⟩
 case store t y z =>
  unfold storeOpK at h
  rw [evK_eq, evK_eq] at h
  refine (storeK_got (B := B) h).mono fun m H' ⟨e, hm⟩ => fun x w ρ hR hρ => .inl ?_
  subst e
  obtain ⟨w', h1, h2, h3⟩ := hm x w _ _ hR (hρ y) (hρ z)
  exact ⟨Go.undef, w', .inr ⟨by simp [execOp, h1], rfl⟩, x, Env.le_refl x, h2, .v _, h3⟩
 case nilCheck y =>
  unfold nilOpK at h
  rw [evK_eq] at h
  split at h
  ·rename_i n o e
   refine ⟨_, _, _, _, h, OpDoes.val fun x w ρ hR hρ => ?_⟩
   have hy := hρ y
   rw [e] at hy
   refine ⟨ρ y, w, ?_, Post.still hR hy⟩
   cases hq : ρ y with
   | pointer a => rw [hq] at hy; cases hy; simp [execOp, hq]
   | _ => rw [hq] at hy; cases hy
  ·rename_i f cs e
   refine ⟨_, _, _, _, h, OpDoes.val fun x w ρ hR hρ => ?_⟩
   have hy := hρ y
   rw [e] at hy
   refine ⟨ρ y, w, ?_, Post.still hR hy⟩
   cases hq : ρ y with
   | func fn a b => rw [hq] at hy; cases hy; simp [execOp, hq]
   | _ => rw [hq] at hy; cases hy
  ·rename_i f a cs e
   refine ⟨_, _, _, _, h, OpDoes.val fun x w ρ hR hρ => ?_⟩
   have hy := hρ y
   rw [e] at hy
   refine ⟨ρ y, w, ?_, Post.still hR hy⟩
   simp [execOp, hy.v_eq]
  ·exact (not_fail h).elim
 case binOp op t y z t2 =>
  unfold binOpK at h
  rw [evK_eq, evK_eq] at h
  refine (binK_got h).mono fun m H' ⟨e, hm⟩ => OpDoes.val fun x w ρ hR hρ => ?_
  subst e
  obtain ⟨r, h1, h2⟩ := hm x w _ _ (hρ y) (hρ z)
  refine ⟨r, w, ?_, Post.still hR h2⟩
  simp only [execOp]
  rw [Sem.run_bind, h1]
  simp
 case unOp op t y =>
  unfold unOpK at h
  rw [evK_eq] at h
  split at h
  ·rename_i a e
   obtain ⟨m, H', c', l', h4, e2, r, em, hr⟩ := pureK_got h
   subst e2
   refine ⟨m, H', c', l', h4, OpDoes.val fun x w ρ hR hρ => ⟨r, w, ?_, by rw [em]; exact Post.still hR (.v r)⟩⟩
   have hy := hρ y
   rw [e] at hy
   simp [execOp, hy.v_eq, hr w]
  ·exact (not_fail h).elim
 case convert s d y =>
  unfold convOpK at h
  rw [evK_eq] at h
  split at h
  ·rename_i a e
   obtain ⟨m, H', c', l', h4, e2, r, em, hr⟩ := pureK_got h
   subst e2
   refine ⟨m, H', c', l', h4, OpDoes.val fun x w ρ hR hρ => ⟨r, w, ?_, by rw [em]; exact Post.still hR (.v r)⟩⟩
   have hy := hρ y
   rw [e] at hy
   simp [execOp, hy.v_eq, hr w]
  ·exact (not_fail h).elim
 case makeFunc fn first caps =>
  unfold funOpK at h
  split at h
  ·rename_i e
   rw [evsK_eq] at h
   refine ⟨_, _, _, _, h, OpDoes.val fun x w ρ hR hρ => ⟨_, w, ?_, Post.still hR (.clo (map_rnds hρ caps.toList))⟩⟩
   have e1 : first = #[] := by apply Array.ext'; simpa using e
   have e2 : caps.map ρ = (caps.toList.map ρ).toArray := by apply Array.ext'; simp
   simp [execOp, Instr.makeFunc, e1, e2]
  ·exact (not_fail h).elim
 case makeSlice t y z =>
  unfold makeOpK at h
  rw [evK_eq, evK_eq] at h
  refine (makeSliceK_got (B := B) h).mono fun m H' hm => OpDoes.val fun x w ρ hR hρ => ?_
  obtain ⟨r, w', h1, h2⟩ := hm x w _ _ hR (hρ y) (hρ z)
  exact ⟨r, w', by simp [execOp, h1], h2⟩
 case slice t y lo hi mx =>
  rw [evK_eq] at h
  refine (sliceK_got h).mono fun m H' ⟨e, hm⟩ => OpDoes.val fun x w ρ hR hρ => ?_
  subst e
  obtain ⟨r, h1, h2⟩ := hm x w _ ρ (hρ y) hρ
  exact ⟨r, w, by simp [execOp, h1], Post.still hR h2⟩
 case fieldAddr t y f =>
  rw [evK_eq] at h
  refine (fieldAddrK_got h).mono fun m H' ⟨e, hm⟩ => OpDoes.val fun x w ρ hR hρ => ?_
  subst e
  obtain ⟨r, h1, h2⟩ := hm x w _ (hρ y)
  exact ⟨r, w, by simp [execOp, h1], Post.still hR h2⟩
 case field t y f =>
  rw [evK_eq] at h
  refine (fieldK_got h).mono fun m H' ⟨e, hm⟩ => OpDoes.val fun x w ρ hR hρ => ?_
  subst e
  obtain ⟨r, h1, h2⟩ := hm x w _ (hρ y)
  exact ⟨r, w, by simp [execOp, h1], Post.still hR h2⟩
 case indexAddr t y z =>
  unfold indexAddrOpK at h
  rw [evK_eq, evK_eq] at h
  refine (indexAddrK_got h).mono fun m H' ⟨e, hm⟩ => OpDoes.val fun x w ρ hR hρ => ?_
  subst e
  obtain ⟨r, h1, h2⟩ := hm x w _ _ (hρ y) (hρ z)
  exact ⟨r, w, by simp [execOp, h1], Post.still hR h2⟩
 case index t y z =>
  unfold indexOpK at h
  rw [evK_eq, evK_eq] at h
  refine (indexK_got h).mono fun m H' ⟨e, hm⟩ => OpDoes.val fun x w ρ hR hρ => ?_
  subst e
  obtain ⟨r, h1, h2⟩ := hm x w _ _ (hρ y) (hρ z)
  exact ⟨r, w, by simp [execOp, h1], Post.still hR h2⟩
 case extract y i =>
  rw [evK_eq] at h
  refine (extractK_got h).mono fun m H' ⟨e, hm⟩ => OpDoes.val fun x w ρ hR hρ => ?_
  subst e
  obtain ⟨r, h1, h2⟩ := hm x w _ (hρ y)
  exact ⟨r, w, by simp [execOp, h1], Post.still hR h2⟩
 case call cl =>
  obtain ⟨callee, args, ats⟩ := cl
  unfold callOpK at h
  dsimp only at h
  have em : ∀ ρ : Operand → Value, args.map ρ = (args.toList.map ρ).toArray := fun ρ => by apply Array.ext'; simp
  split at h
  ·rw [evsK_eq] at h
   refine (builtinK_got (B := B) h).mono fun m H' hm => OpDoes.val fun x w ρ hR hρ => ?_
   obtain ⟨r, w', h1, h2⟩ := hm x w _ hR (map_rnds hρ args.toList)
   refine ⟨r, w', ?_, h2⟩
   simp only [execOp, resolve, em ρ]
   exact h1 _
  ·rename_i f
   rw [evK_eq, evsK_eq] at h
   refine (hcall _ _ _ _ _ _ _ h).mono fun m H' hm => fun x w ρ hR hρ => ?_
   have h1 := hm x w _ _ hR (hρ f) (map_rnds hρ args.toList)
   have e : execOp ρ ⟨dst, .call ⟨.value f, args, ats⟩, ty, pos, after, guard⟩ = calleeSem (ρ f) (args.toList.map ρ).toArray := by
    simp only [execOp, resolve, em ρ, calleeSem]
   rw [e]
   exact h1
  ·exact (not_fail h).elim
 case makeMap t r =>
  unfold makeMapOpK at h
  split at h
  ·split at h
   ·rename_i kt e hu
    split at h
    ·rename_i kk hk
     obtain ⟨h1, h2, l', h3⟩ := newC_got h
     refine ⟨_, _, _, _, h3, OpDoes.val fun x w ρ hR hρ => ?_⟩
     obtain ⟨y, g1, g2, g3⟩ := hR.newC (w' := w.alloc (.map #[] 0)) (d := .mp kk []) h1 h2 (fun k hk => Below.heap_alloc w _ k hk) (by simp) 0 (fun y _ => ⟨#[], 0, World.alloc_heap_new w _, rfl⟩)
     exact ⟨.map (some w.heap.size), w.alloc (.map #[] 0), by simp [execOp, Instr.makeMap], y, g1, g3, .mref g2, (Below.refl B w).alloc hR.base _⟩
    ·exact (not_fail h).elim
   ·exact (not_fail h).elim
  ·exact (not_fail h).elim
 case mapUpdate t a b d =>
  unfold mapOpK at h
  rw [evK_eq, evK_eq, evK_eq] at h
  refine (mapUpdateK_got (B := B) h).mono fun m H' ⟨e, hm⟩ => fun x w ρ hR hρ => .inl ?_
  subst e
  obtain ⟨w', h1, h2, h3⟩ := hm x w _ _ _ hR (hρ a) (hρ b) (hρ d)
  exact ⟨Go.undef, w', .inr ⟨by simp [execOp, h1], rfl⟩, x, Env.le_refl x, h2, .v _, h3⟩
 case insert t a b d =>
  unfold mapOpK at h
  rw [evK_eq, evK_eq, evK_eq] at h
  refine (mapUpdateK_got (B := B) h).mono fun m H' ⟨e, hm⟩ => fun x w ρ hR hρ => .inl ?_
  subst e
  obtain ⟨w', h1, h2, h3⟩ := hm x w _ _ _ hR (hρ a) (hρ b) (hρ d)
  exact ⟨Go.undef, w', .inr ⟨by simp [execOp, h1], rfl⟩, x, Env.le_refl x, h2, .v _, h3⟩
 case lookup t a b ok =>
  unfold lookOpK at h
  rw [evK_eq, evK_eq] at h
  refine (lookupK_got (B := B) h).mono fun m H' ⟨e, hm⟩ => OpDoes.val fun x w ρ hR hρ => ?_
  subst e
  obtain ⟨r, h1, h2⟩ := hm x w _ _ hR (hρ a) (hρ b)
  exact ⟨r, w, by simp [execOp, h1], Post.still hR h2⟩
 all_goals exact (not_fail h).elim
end Go.Proofs.YtbbbflnnbbaamaaGreatDoor.Mini
namespace Go.Proofs.YtbbbflnnbbaamaaGreatDoor.Mini
open Go.RowKit

variable {P : Program} {B : Nat}
inductive Marks (x : Env) : List Nat → List Deferred → Prop
 | nil : Marks x [] []
 | cons {n : Nat} {L : Loc} {ns : List Nat} {ds : List Deferred} (h : x n = some L) (hs : Marks x ns ds) : Marks x (n :: ns) ({ target := .collected L.b, args := #[] } :: ds)
theorem Marks.le {x y : Env} (hl : x.le y) : ∀ {ns : List Nat} {ds : List Deferred}, Marks x ns ds → Marks y ns ds
 | _, _, .nil => .nil
 | _, _, .cons h hs => .cons (hl _ _ h) (hs.le hl)
structure FrAt (x : Env) (F : Fr) (a : Act) : Prop where
 dfr : Marks x F.marks a.defers
 tm : FrT x F a.tmps
theorem FrAt.ev {x : Env} {F : Fr} {a : Act} (h : FrAt x F a) (i : Nat) : Rnd x ((F.t.get i).getD MV.undef) (a.tmps.getD i Go.undef) := h.tm.ev i
theorem FrAt.eval {x : Env} {F : Fr} {a : Act} (h : FrAt x F a) (y : Operand) : Rnd x (F.ev y) (a.eval y) := by
 cases y with
 | tmp i => exact h.ev i
 | _ => exact .v _
theorem FrAt.le {x y : Env} {F : Fr} {a : Act} (h : FrAt x F a) (hl : x.le y) : FrAt y F a := ⟨h.dfr.le hl, h.tm.le hl⟩
theorem FrT.put {x : Env} {F : Fr} {tmps : Array Value} (h : FrT x F tmps) {i : Nat} (h1 : i < F.n) (h2 : i < far) {m : MV} {v : Value} (hv : Rnd x m v) : FrT x (F.put (some i) m) (tmps.setIfInBounds i v) := by
 refine ⟨by rw [Array.size_setIfInBounds]; exact h.size, fun j => ?_⟩
 show Rnd x (((F.t.set i m).get j).getD MV.undef) _
 rw [T.get_set _ _ _ _ h2]
 by_cases e : j = i
 ·subst e
  rw [if_pos rfl]
  have : (tmps.setIfInBounds j v).getD j Go.undef = v := by
   simp [Array.getD, h.size, h1]
  rw [this]
  exact hv
 ·rw [if_neg e]
  have : (tmps.setIfInBounds i v).getD j Go.undef = tmps.getD j Go.undef := by
   simp only [Array.getD_eq_getD_getElem?]
   rw [Array.getElem?_setIfInBounds_ne (fun e2 => e e2.symm)]
  rw [this]
  exact h.ev j
theorem FrAt.put {x : Env} {F : Fr} {a : Act} (h : FrAt x F a) {d : Option Tmp} (hf : F.fits d) {m : MV} {v : Value} (hv : Rnd x m v) : FrAt x (F.put d m) (a.put d v) := by
 cases d with
 | none => exact h
 | some i => exact ⟨h.dfr, h.tm.put (hf i rfl).1 (hf i rfl).2 hv⟩
theorem yielded_no {ops : Array Oper} {tmps : Array Value} {j d : Nat} (hd : (ops[j]?).bind (·.dst) = some d) (h : ∀ b, tmps.getD d Go.undef ≠ .bool b) : yielded ops tmps j = none := by
 unfold yielded
 rw [hd]
 simp only [Option.bind_some]
 rw [Array.getD_eq_getD_getElem?] at h
 cases hq : tmps[d]? with
 | none => rfl
 | some u =>
  rw [hq] at h
  cases u <;> first | rfl | exact absurd rfl (h _)
theorem yielded_yes {ops : Array Oper} {tmps : Array Value} {j d : Nat} {b : Bool} (hd : (ops[j]?).bind (·.dst) = some d) (h : tmps.getD d Go.undef = .bool b) : yielded ops tmps j = some b := by
 unfold yielded
 rw [hd]
 simp only [Option.bind_some]
 rw [Array.getD_eq_getD_getElem?] at h
 cases hq : tmps[d]? with
 | none => rw [hq] at h; cases h
 | some u =>
  rw [hq] at h
  have : u = .bool b := h
  subst this
  rfl
theorem yielded_none {ops : Array Oper} {tmps : Array Value} {j : Nat} (hd : (ops[j]?).bind (·.dst) = none) : yielded ops tmps j = none := by
 unfold yielded
 rw [hd]
 rfl
theorem wanted_eq {x : Env} {F : Fr} {a : Act} (h : FrAt x F a) (ops : Array Oper) (o : Oper) : Region.wanted o (yielded ops a.tmps) = wantedM ops F o := by
 unfold Region.wanted wantedM
 cases o.guard with
 | none => rfl
 | some g =>
  obtain ⟨j, want⟩ := g
  dsimp only
  cases hd : (ops[j]?).bind (·.dst) with
  | none => rw [yielded_none hd]; cases want <;> rfl
  | some d =>
   dsimp only
   have hv := h.ev d
   cases hm : F.t.get d with
   | none =>
    rw [hm] at hv
    rw [yielded_no hd (fun b e => by rw [hv.v_eq] at e; cases e)]
    cases want <;> rfl
   | some m =>
    rw [hm] at hv
    dsimp only [Option.getD_some] at hv
    cases m with
    | v y =>
     have e := hv.v_eq
     cases y <;> first
      | (rename_i b; rw [yielded_yes hd e]; cases b <;> cases want <;> rfl)
      | (rw [yielded_no hd (fun b e2 => by rw [e] at e2; cases e2)]; cases want <;> rfl)
    | ptr n o => rw [yielded_no hd (fun b e => by rw [e] at hv; cases hv)]; cases want <;> rfl
    | sl n o l c => rw [yielded_no hd (fun b e => by rw [e] at hv; cases hv)]; cases want <;> rfl
    | yld n => rw [yielded_no hd (fun b e => by rw [e] at hv; cases hv)]; cases want <;> rfl
    | mref n => rw [yielded_no hd (fun b e => by rw [e] at hv; cases hv)]; cases want <;> rfl
    | emp => rw [yielded_no hd (fun b e => by rw [e] at hv; cases hv)]; cases want <;> rfl
    | clo f cs => rw [yielded_no hd (fun b e => by rw [e] at hv; cases hv)]; cases want <;> rfl
    | agg cs => rw [yielded_no hd (fun b e => by rw [e] at hv; cases hv)]; cases want <;> rfl
    | tup cs => rw [yielded_no hd (fun b e => by rw [e] at hv; cases hv)]; cases want <;> rfl
theorem opK_plain {call : MV → List MV → (MV → Prg) → Prg} {F : Fr} {o : Oper} {k : MV → Prg} {H : Heap} {c : Nat} {l : Log} {out : MV × Heap × Nat × Log} (h : run (opK P call F o k) H c l = some out) : ∀ d, o.op ≠ .defer d := by
 intro d e
 unfold opK at h
 rw [e] at h
 exact not_fail h
theorem OpDoes.wpIn {Fc : Fence} (hW : Wd Fc) {n : Nat} {o : Oper} {F : Fr} {m : MV} {H H' : Heap} (h : OpDoes P B o F m H H') (hd : ∀ d, o.op ≠ .defer d) {x : Env} {w : World} {a : Act} (hR : Rel B x H w) (ha : FrAt x F a) {K : Act → World → Prop} {Q : Exit → Act → World → Prop}
  (hK : ∀ v w', Post B x H' m w v w' → K (a.put o.dst v) w') : o.wpIn Fc n P a w K Q := by
 refine ⟨fun f _ => hW.fn f, ?_⟩
 have hs : o.semAt Fc.round a.eval = execOp a.eval o := by
  unfold Oper.semAt
  split
  ·rename_i e; exact absurd e (hd _)
  ·rfl
 rw [hs]
 rcases h x w a.eval hR ha.eval with ⟨v, w', h1, h2⟩ | ⟨f, args, h1, h2⟩ | ⟨l, f, tmps, asg, bd, h1, h2⟩
 ·rcases h1 with h1 | ⟨h1, rfl⟩
  ·rw [h1]; exact hK v w' h2
  ·rw [h1]; exact hK _ w' h2
 ·rw [h1]
  refine ⟨fun e => (by rw [hW.dep] at e; cases e), hW.call _ _ _ _ _ _ (h2.mono fun e w' ⟨v, he, hp⟩ => ?_)⟩
  subst he
  exact hK v w' hp
 ·rw [h1]
  refine ⟨fun e => (by rw [hW.dep] at e; cases e), (h2 Fc (n - 1) hW).mono fun e w' ⟨v, he, hp⟩ => ?_⟩
  subst he
  exact hK v w' hp
def RegDoes (B : Nat) (S : Fence → Nat → (Exit → Act → World → Prop) → Act → World → Prop) (F : Fr) (H : Heap) (F' : Fr) (H' : Heap) : Prop :=
 ∀ (Fc : Fence) (n : Nat), Wd Fc → ∀ x w a Q, Rel B x H w → FrAt x F a → (∀ y w' a', x.le y → Rel B y H' w' → FrAt y F' a' → Below B w w' → Q .normal a' w') → S Fc n Q a w
theorem reg_got {call : MV → List MV → (MV → Prg) → Prg} (hcall : CallOk P B call) (ops : Array Oper) : ∀ (rest : List Oper) (F : Fr) (k : Fr → Prg) (H : Heap) (c : Nat) (l : Log) (out : MV × Heap × Nat × Log), run (regK P call ops rest F k) H c l = some out →
  ∃ F' H' c' l', run (k F') H' c' l' = some out ∧ RegDoes B (fun Fc n Q a w => wpListIn Fc n P ops Q rest a w) F H F' H'
 | [], F, k, H, c, l, out, h => ⟨F, H, c, l, h, fun Fc n hW x w a Q hR ha hQ => hQ x w a (Env.le_refl x) hR ha (Below.refl B w)⟩
 | o :: rest, F, k, H, c, l, out, h => by
  unfold regK at h
  split at h
  ·rename_i hw
   have hd := opK_plain h
   obtain ⟨m, H1, c1, l1, h1, h2⟩ := op_got hcall h
   obtain ⟨hf, h3⟩ := run_putK h1
   obtain ⟨F', H', c', l', h4, h5⟩ := reg_got hcall ops rest _ _ _ _ _ _ h3
   refine ⟨F', H', c', l', h4, fun Fc n hW x w a Q hR ha hQ => ?_⟩
   show wpListIn Fc n P ops Q (o :: rest) a w
   unfold wpListIn
   rw [wanted_eq ha ops o, hw, if_pos rfl]
   refine h2.wpIn hW hd hR ha fun v w' ⟨y, q1, q2, q3, q4⟩ => ?_
   exact h5 Fc n hW y w' _ Q q2 ((ha.le q1).put hf q3) fun z w2 a2 e1 e2 e3 e4 => hQ z w2 a2 (Env.le_trans q1 e1) e2 e3 (q4.trans e4)
  ·rename_i hw
   obtain ⟨hf, h3⟩ := run_putK h
   obtain ⟨F', H', c', l', h4, h5⟩ := reg_got hcall ops rest _ _ _ _ _ _ h3
   refine ⟨F', H', c', l', h4, fun Fc n hW x w a Q hR ha hQ => ?_⟩
   show wpListIn Fc n P ops Q (o :: rest) a w
   unfold wpListIn
   rw [wanted_eq ha ops o, hw, if_neg (by simp)]
   exact ⟨fun f _ => hW.fn f, h5 Fc n hW x w _ Q hR (ha.put hf (.v _)) hQ⟩

/-! ### In any order -/
theorem opK_congr {call : MV → List MV → (MV → Prg) → Prg} {F G : Fr} {o : Oper} {k : MV → Prg} (h : ∀ y ∈ o.op.operands, F.ev y = G.ev y) : opK P call F o k = opK P call G o k := by
 obtain ⟨dst, op, ty, pos, after, guard⟩ := o
 have hl : ∀ (l : List Operand), (∀ y ∈ l, F.ev y = G.ev y) → l.map F.ev = l.map G.ev := fun l hl => List.map_congr_left hl
 have hp : ∀ (l : List (Nat × Operand)), (∀ y ∈ l.map (·.2), F.ev y = G.ev y) → evps F l = evps G l := by
  intro l
  induction l with
  | nil => intro _; rfl
  | cons q l ih =>
   obtain ⟨i, y⟩ := q
   intro hy
   simp only [evps]
   rw [hy y (by simp), ih fun z hz => hy z (by simp only [List.map_cons, List.mem_cons]; exact .inr hz)]
 unfold opK
 cases op <;> dsimp only [Op.operands, pickK, boxOpK, buildOpK, loadOpK, storeOpK, nilOpK, binOpK, unOpK, convOpK, funOpK, makeOpK, indexAddrOpK, indexOpK, callOpK, mapOpK, lookOpK] at h ⊢ <;> try simp only [evK_eq, evsK_eq]
 case build t ps => rw [hp ps.toList (fun y hy => h y (by simpa using hy))]
 case buildSlice t n ps => rw [hp ps.toList (fun y hy => h y (by simpa using hy))]
 case makeFunc fn first caps => rw [hl caps.toList (fun y hy => h y (by simp at hy ⊢; exact .inr hy))]
 case slice t y lo hi mx =>
  have h0 : F.ev y = G.ev y := h y (by simp)
  have hb : ∀ (o : Option Operand) (d b : Nat) (k : Nat → Prg), (∀ z, o = some z → F.ev z = G.ev z) → boundK F o d b k = boundK G o d b k := fun o d b k hz => by
   cases o with
   | none => rfl
   | some z => simp only [boundK, evK_eq, hz z rfl]
  have hq : ∀ (o : Option Operand) (k : Option Value → Prg), (∀ z, o = some z → F.ev z = G.ev z) → plainK F o k = plainK G o k := fun o k hz => by
   cases o with
   | none => rfl
   | some z => simp only [plainK, evK_eq, hz z rfl]
  have h1 : ∀ z, lo = some z → F.ev z = G.ev z := fun z e => h z (by subst e; simp)
  have h2 : ∀ z, hi = some z → F.ev z = G.ev z := fun z e => h z (by subst e; simp)
  have h3 : ∀ z, mx = some z → F.ev z = G.ev z := fun z e => h z (by subst e; simp)
  rw [h0]
  unfold sliceK
  have h3' : ∀ m0 z, mx = some m0 → some m0 = some z → F.ev z = G.ev z := fun m0 z e e2 => h3 z (by rw [e, e2])
  split
  ·split
   ·rfl
   ·split
    ·split
     ·simp only [hb _ _ _ _ h1, hb _ _ _ _ h2, hb _ _ _ _ (h3' _ · rfl)]
     ·simp only [hb _ _ _ _ h1, hb _ _ _ _ h2]
     ·simp only [hb _ _ _ _ h1, hb _ _ _ _ h2, hb _ _ _ _ (h3' _ · rfl)]
     ·simp only [hb _ _ _ _ h1, hb _ _ _ _ h2]
    ·simp only [hq _ _ h1, hq _ _ h2, hq _ _ h3]
    ·split
     ·simp only [hb _ _ _ _ h1, hb _ _ _ _ h2]
     ·rfl
    ·rfl
  ·split
   ·simp only [hq _ _ h1, hq _ _ h2, hq _ _ h3]
   ·rfl
  ·rfl
 case call cl =>
  obtain ⟨callee, args, ats⟩ := cl
  dsimp only [Call.operands] at h ⊢
  cases callee with
  | builtin b => rw [hl args.toList (fun y hy => h y (by simp at hy ⊢; exact hy))]
  | value f =>
   dsimp only
   rw [h f (by simp), hl args.toList (fun y hy => h y (by simp at hy ⊢; exact .inr hy))]
  | invoke r s => rfl
 all_goals first | rfl | (simp only [h _ (by simp : _ ∈ _)]; done) | (simp_all; done)
end Go.Proofs.YtbbbflnnbbaamaaGreatDoor.Mini
