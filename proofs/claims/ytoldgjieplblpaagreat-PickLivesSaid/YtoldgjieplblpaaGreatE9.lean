/- The small machine: an operation of the text, and regions in the text's order. -/
import Derived.Test.YtoldgjieplblpaaGreatEM
import Derived.OrdersIn
import Derived.TacticsIn
import Derived.RangeFuncCalls
namespace Go.Proofs.YtoldgjieplblpaaGreat.Mini
open Go.RowKit

variable {P : Program} {B : Nat}
/-- Fences that fence nothing. -/
structure Wd (Fc : Fence) : Prop where
  fn : ∀ f, Fc.fn f
  dep : Fc.depth = none
  call : ∀ (n : Nat) (P : Program) (f : FuncId) (args : Array Value) (w : World) (R : Ending → World → Prop), Calls P f args w R → CallsIn Fc n P f args w R
theorem Wd.wide : Wd Fence.wide := ⟨fun _ => trivial, rfl, fun _ _ _ _ _ _ h => callsIn_wide.2 h⟩
theorem Wd.inRound {Fc : Fence} (h : Wd Fc) (l : Nat) : Wd (Fc.inRound l) := ⟨h.fn, h.dep, fun n P f args w R hc => (h.call n P f args w R hc).inRound l⟩
def CallDoes (P : Program) (B : Nat) (f : FuncId) (args : List MV) (m : MV) (H H' : Heap) : Prop :=
  ∀ x w vs, Rel B x H w → Rnds x args vs → (callFunc f vs.toArray).run P w = .ok (.enter f vs.toArray) w ∧ Calls P f vs.toArray w fun e w' => ∃ v, e = .returned v ∧ Post B x H' m w v w'
/-- How the world goes on behind an operation or a call. -/
def NextDoes (P : Program) (B : Nat) (x : Env) (H' : Heap) (m : MV) (w : World) (s : Sem Next) : Prop :=
  (∃ v w', (s.run P w = .ok (.value v) w' ∨ (s.run P w = .ok .skip w' ∧ v = Go.undef)) ∧ Post B x H' m w v w') ∨
  (∃ f args, s.run P w = .ok (.enter f args) w ∧ Calls P f args w fun e w' => ∃ v, e = .returned v ∧ Post B x H' m w v w') ∨
  ∃ l f tmps asg bd, s.run P w = .ok (.round l f tmps asg bd) w ∧ ∀ Fc n, Wd Fc → RoundIn Fc n P l f tmps asg bd w fun e w' => ∃ v, e = .returned v ∧ Post B x H' m w v w'
def calleeSem (fv : Value) (args : Array Value) : Sem Next := do let d ← Deferred.ofValue fv args; invoke d.target d.args
def CallOk (P : Program) (B : Nat) (call : MV → List MV → (MV → Prg) → Prg) : Prop :=
  ∀ f args k H c l out, run (call f args k) H c l = some out → Got k out fun m H' => ∀ x w fv vs, Rel B x H w → Rnd x f fv → Rnds x args vs → NextDoes P B x H' m w (calleeSem fv vs.toArray)
/-- What an operation does in the world. -/
def OpDoes (P : Program) (B : Nat) (o : Oper) (F : Fr) (m : MV) (H H' : Heap) : Prop :=
  ∀ x w (ρ : Operand → Value), Rel B x H w → (∀ y, Rnd x (F.ev y) (ρ y)) → NextDoes P B x H' m w (execOp ρ o)
theorem map_rnds {x : Env} {F : Fr} {ρ : Operand → Value} (h : ∀ y, Rnd x (F.ev y) (ρ y)) : ∀ (l : List Operand), Rnds x (l.map F.ev) (l.map ρ)
  | [] => .nil
  | y :: l => .cons (h y) (map_rnds h l)
theorem evps_parts {x : Env} {F : Fr} {ρ : Operand → Value} (h : ∀ y, Rnd x (F.ev y) (ρ y)) : ∀ (l : List (Nat × Operand)), Parts x (evps F l) (l.map fun (i, y) => (i, ρ y))
  | [] => .nil
  | (_, y) :: l => .cons (h y) (evps_parts h l)
theorem OpDoes.val {o : Oper} {F : Fr} {m : MV} {H H' : Heap} (h : ∀ x w (ρ : Operand → Value), Rel B x H w → (∀ y, Rnd x (F.ev y) (ρ y)) → ∃ v w', (execOp ρ o).run P w = .ok (.value v) w' ∧ Post B x H' m w v w') : OpDoes P B o F m H H' :=
  fun x w ρ hR hρ => let ⟨v, w', h1, h2⟩ := h x w ρ hR hρ; .inl ⟨v, w', .inl h1, h2⟩
theorem op_got {call : MV → List MV → (MV → Prg) → Prg} (hcall : CallOk P B call) {F : Fr} {o : Oper} {k : MV → Prg} {H : Heap} {c : Nat} {l : Log} {out : MV × Heap × Nat × Log} (h : run (opK P call F o k) H c l = some out) :
    Got k out fun m H' => OpDoes P B o F m H H' := by
  obtain ⟨dst, op, ty, pos, after, guard⟩ := o
  unfold opK at h
  cases op <;> dsimp only at h
  case move y =>
    rw [evK_eq] at h
    exact ⟨_, _, _, _, h, OpDoes.val fun x w ρ hR hρ => ⟨ρ y, w, by simp [execOp], Post.still hR (hρ y)⟩⟩
  case assign y =>
    rw [evK_eq] at h
    exact ⟨_, _, _, _, h, OpDoes.val fun x w ρ hR hρ => ⟨ρ y, w, by simp [execOp], Post.still hR (hρ y)⟩⟩
  case pick y a b =>
    unfold pickK at h
    rw [evK_eq] at h
    split at h
    · rename_i e
      rw [evK_eq] at h
      refine ⟨_, _, _, _, h, OpDoes.val fun x w ρ hR hρ => ⟨ρ a, w, ?_, Post.still hR (hρ a)⟩⟩
      have hy := hρ y
      rw [e] at hy
      simp [execOp, hy.v_eq, asBool]
    · rename_i e
      rw [evK_eq] at h
      refine ⟨_, _, _, _, h, OpDoes.val fun x w ρ hR hρ => ⟨ρ b, w, ?_, Post.still hR (hρ b)⟩⟩
      have hy := hρ y
      rw [e] at hy
      simp [execOp, hy.v_eq, asBool]
    · exact (not_fail h).elim
  case alloc t =>
    unfold allocK at h
    split at h
    · rename_i i hi
      split at h
      · rename_i z hz
        rw [strictK_eq] at h
        refine (boxK_got (B := B) h).mono fun m H' hm => OpDoes.val fun x w ρ hR hρ => ?_
        have := hm x w z.cells.toList hR (Rnd.v z).cells
        exact ⟨.pointer (some ⟨w.heap.size, 0, none⟩), w.alloc (.cells z.cells t), by simp [execOp, Instr.alloc, zeroValue, typeInfo, hi, hz, newVar, Go.newRow], by simpa using this⟩
      · exact (not_fail h).elim
    · exact (not_fail h).elim
  case box t y =>
    unfold boxOpK at h
    rw [evK_eq, strictK_eq] at h
    refine (boxK_got (B := B) h).mono fun m H' hm => OpDoes.val fun x w ρ hR hρ => ?_
    have := hm x w (ρ y).cells.toList hR (hρ y).cells
    exact ⟨.pointer (some ⟨w.heap.size, 0, none⟩), w.alloc (.cells (ρ y).cells t), by simp [execOp, Instr.box, newVar, Go.newRow], by simpa using this⟩
  case build t parts =>
    unfold buildOpK at h
    split at h
    · rename_i cs hcs
      rw [strictK_eq] at h
      refine ⟨_, _, _, _, h, OpDoes.val fun x w ρ hR hρ => ?_⟩
      obtain ⟨a, h1, h2⟩ := build_sim hcs (evps_parts hρ parts.toList) w
      refine ⟨.agg a, w, ?_, Post.still hR (by have := Rnd.agg h2; simpa using this)⟩
      have e : (parts.map fun (i, y) => (i, ρ y)) = (parts.toList.map fun (i, y) => (i, ρ y)).toArray := by apply Array.ext'; simp
      simp only [execOp]
      rw [e]
      simp [h1]
    · exact (not_fail h).elim
  case buildSlice t len parts =>
    refine (buildSliceK_got (B := B) h).mono fun m H' hm => OpDoes.val fun x w ρ hR hρ => ?_
    obtain ⟨v, w', h1, h2⟩ := hm x w _ hR (evps_parts hρ parts.toList)
    refine ⟨v, w', ?_, h2⟩
    have e : (parts.map fun (i, y) => (i, ρ y)) = (parts.toList.map fun (i, y) => (i, ρ y)).toArray := by apply Array.ext'; simp
    simp only [execOp]
    rw [e]
    simp [h1]
  case load t y =>
    unfold loadOpK at h
    rw [evK_eq] at h
    refine (loadK_got (B := B) h).mono fun m H' ⟨e, hm⟩ => OpDoes.val fun x w ρ hR hρ => ?_
    subst e
    obtain ⟨u, h1, h2⟩ := hm x w _ hR (hρ y)
    exact ⟨u, w, by simp [execOp, h1], Post.still hR h2⟩
  case store t y z =>
    unfold storeOpK at h
    rw [evK_eq, evK_eq] at h
    refine (storeK_got (B := B) h).mono fun m H' ⟨e, hm⟩ => fun x w ρ hR hρ => .inl ?_
    subst e
    obtain ⟨w', h1, h2, h3⟩ := hm x w _ _ hR (hρ y) (hρ z)
    exact ⟨Go.undef, w', .inr ⟨by simp [execOp, h1], rfl⟩, x, Env.le_refl x, h2, .v _, h3⟩
  case nilCheck y =>
    unfold nilOpK at h
    rw [evK_eq] at h
    split at h
    · rename_i n o e
      refine ⟨_, _, _, _, h, OpDoes.val fun x w ρ hR hρ => ?_⟩
      have hy := hρ y
      rw [e] at hy
      refine ⟨ρ y, w, ?_, Post.still hR hy⟩
      cases hq : ρ y with
      | pointer a => rw [hq] at hy; cases hy; simp [execOp, hq]
      | _ => rw [hq] at hy; cases hy
    · rename_i f cs e
      refine ⟨_, _, _, _, h, OpDoes.val fun x w ρ hR hρ => ?_⟩
      have hy := hρ y
      rw [e] at hy
      refine ⟨ρ y, w, ?_, Post.still hR hy⟩
      cases hq : ρ y with
      | func fn a b => rw [hq] at hy; cases hy; simp [execOp, hq]
      | _ => rw [hq] at hy; cases hy
    · rename_i f a cs e
      refine ⟨_, _, _, _, h, OpDoes.val fun x w ρ hR hρ => ?_⟩
      have hy := hρ y
      rw [e] at hy
      refine ⟨ρ y, w, ?_, Post.still hR hy⟩
      simp [execOp, hy.v_eq]
    · exact (not_fail h).elim
  case binOp op t y z t2 =>
    unfold binOpK at h
    rw [evK_eq, evK_eq] at h
    refine (binK_got h).mono fun m H' ⟨e, hm⟩ => OpDoes.val fun x w ρ hR hρ => ?_
    subst e
    obtain ⟨r, h1, h2⟩ := hm x w _ _ (hρ y) (hρ z)
    refine ⟨r, w, ?_, Post.still hR h2⟩
    simp only [execOp]
    rw [Sem.run_bind, h1]
    simp
  case unOp op t y =>
    unfold unOpK at h
    rw [evK_eq] at h
    split at h
    · rename_i a e
      obtain ⟨m, H', c', l', h4, e2, r, em, hr⟩ := pureK_got h
      subst e2
      refine ⟨m, H', c', l', h4, OpDoes.val fun x w ρ hR hρ => ⟨r, w, ?_, by rw [em]; exact Post.still hR (.v r)⟩⟩
      have hy := hρ y
      rw [e] at hy
      simp [execOp, hy.v_eq, hr w]
    · exact (not_fail h).elim
  case convert s d y =>
    unfold convOpK at h
    rw [evK_eq] at h
    split at h
    · rename_i a e
      obtain ⟨m, H', c', l', h4, e2, r, em, hr⟩ := pureK_got h
      subst e2
      refine ⟨m, H', c', l', h4, OpDoes.val fun x w ρ hR hρ => ⟨r, w, ?_, by rw [em]; exact Post.still hR (.v r)⟩⟩
      have hy := hρ y
      rw [e] at hy
      simp [execOp, hy.v_eq, hr w]
    · exact (not_fail h).elim
  case makeFunc fn first caps =>
    unfold funOpK at h
    split at h
    · rename_i e
      rw [evsK_eq] at h
      refine ⟨_, _, _, _, h, OpDoes.val fun x w ρ hR hρ => ⟨_, w, ?_, Post.still hR (.clo (map_rnds hρ caps.toList))⟩⟩
      have e1 : first = #[] := by apply Array.ext'; simpa using e
      have e2 : caps.map ρ = (caps.toList.map ρ).toArray := by apply Array.ext'; simp
      simp [execOp, Instr.makeFunc, e1, e2]
    · exact (not_fail h).elim
  case makeSlice t y z =>
    unfold makeOpK at h
    rw [evK_eq, evK_eq] at h
    refine (makeSliceK_got (B := B) h).mono fun m H' hm => OpDoes.val fun x w ρ hR hρ => ?_
    obtain ⟨r, w', h1, h2⟩ := hm x w _ _ hR (hρ y) (hρ z)
    exact ⟨r, w', by simp [execOp, h1], h2⟩
  case slice t y lo hi mx =>
    rw [evK_eq] at h
    refine (sliceK_got h).mono fun m H' ⟨e, hm⟩ => OpDoes.val fun x w ρ hR hρ => ?_
    subst e
    obtain ⟨r, h1, h2⟩ := hm x w _ ρ (hρ y) hρ
    exact ⟨r, w, by simp [execOp, h1], Post.still hR h2⟩
  case fieldAddr t y f =>
    rw [evK_eq] at h
    refine (fieldAddrK_got h).mono fun m H' ⟨e, hm⟩ => OpDoes.val fun x w ρ hR hρ => ?_
    subst e
    obtain ⟨r, h1, h2⟩ := hm x w _ (hρ y)
    exact ⟨r, w, by simp [execOp, h1], Post.still hR h2⟩
  case field t y f =>
    rw [evK_eq] at h
    refine (fieldK_got h).mono fun m H' ⟨e, hm⟩ => OpDoes.val fun x w ρ hR hρ => ?_
    subst e
    obtain ⟨r, h1, h2⟩ := hm x w _ (hρ y)
    exact ⟨r, w, by simp [execOp, h1], Post.still hR h2⟩
  case indexAddr t y z =>
    unfold indexAddrOpK at h
    rw [evK_eq, evK_eq] at h
    refine (indexAddrK_got h).mono fun m H' ⟨e, hm⟩ => OpDoes.val fun x w ρ hR hρ => ?_
    subst e
    obtain ⟨r, h1, h2⟩ := hm x w _ _ (hρ y) (hρ z)
    exact ⟨r, w, by simp [execOp, h1], Post.still hR h2⟩
  case index t y z =>
    unfold indexOpK at h
    rw [evK_eq, evK_eq] at h
    refine (indexK_got h).mono fun m H' ⟨e, hm⟩ => OpDoes.val fun x w ρ hR hρ => ?_
    subst e
    obtain ⟨r, h1, h2⟩ := hm x w _ _ (hρ y) (hρ z)
    exact ⟨r, w, by simp [execOp, h1], Post.still hR h2⟩
  case extract y i =>
    rw [evK_eq] at h
    refine (extractK_got h).mono fun m H' ⟨e, hm⟩ => OpDoes.val fun x w ρ hR hρ => ?_
    subst e
    obtain ⟨r, h1, h2⟩ := hm x w _ (hρ y)
    exact ⟨r, w, by simp [execOp, h1], Post.still hR h2⟩
  case call cl =>
    obtain ⟨callee, args, ats⟩ := cl
    unfold callOpK at h
    dsimp only at h
    have em : ∀ ρ : Operand → Value, args.map ρ = (args.toList.map ρ).toArray := fun ρ => by apply Array.ext'; simp
    split at h
    · rw [evsK_eq] at h
      refine (builtinK_got (B := B) h).mono fun m H' hm => OpDoes.val fun x w ρ hR hρ => ?_
      obtain ⟨r, w', h1, h2⟩ := hm x w _ hR (map_rnds hρ args.toList)
      refine ⟨r, w', ?_, h2⟩
      simp only [execOp, resolve, em ρ]
      exact h1 _
    · rename_i f
      rw [evK_eq, evsK_eq] at h
      refine (hcall _ _ _ _ _ _ _ h).mono fun m H' hm => fun x w ρ hR hρ => ?_
      have h1 := hm x w _ _ hR (hρ f) (map_rnds hρ args.toList)
      have e : execOp ρ ⟨dst, .call ⟨.value f, args, ats⟩, ty, pos, after, guard⟩ = calleeSem (ρ f) (args.toList.map ρ).toArray := by
        simp only [execOp, resolve, em ρ, calleeSem]
      rw [e]
      exact h1
    · exact (not_fail h).elim
  case makeMap t r =>
    unfold makeMapOpK at h
    split at h
    · split at h
      · rename_i kt e hu
        split at h
        · rename_i kk hk
          obtain ⟨h1, h2, l', h3⟩ := newC_got h
          refine ⟨_, _, _, _, h3, OpDoes.val fun x w ρ hR hρ => ?_⟩
          obtain ⟨y, g1, g2, g3⟩ := hR.newC (w' := w.alloc (.map #[] 0)) (d := .mp kk []) h1 h2 (fun k hk => Below.heap_alloc w _ k hk) (by simp) 0 (fun y _ => ⟨#[], 0, World.alloc_heap_new w _, rfl⟩)
          exact ⟨.map (some w.heap.size), w.alloc (.map #[] 0), by simp [execOp, Instr.makeMap], y, g1, g3, .mref g2, (Below.refl B w).alloc hR.base _⟩
        · exact (not_fail h).elim
      · exact (not_fail h).elim
    · exact (not_fail h).elim
  case mapUpdate t a b d =>
    unfold mapOpK at h
    rw [evK_eq, evK_eq, evK_eq] at h
    refine (mapUpdateK_got (B := B) h).mono fun m H' ⟨e, hm⟩ => fun x w ρ hR hρ => .inl ?_
    subst e
    obtain ⟨w', h1, h2, h3⟩ := hm x w _ _ _ hR (hρ a) (hρ b) (hρ d)
    exact ⟨Go.undef, w', .inr ⟨by simp [execOp, h1], rfl⟩, x, Env.le_refl x, h2, .v _, h3⟩
  case insert t a b d =>
    unfold mapOpK at h
    rw [evK_eq, evK_eq, evK_eq] at h
    refine (mapUpdateK_got (B := B) h).mono fun m H' ⟨e, hm⟩ => fun x w ρ hR hρ => .inl ?_
    subst e
    obtain ⟨w', h1, h2, h3⟩ := hm x w _ _ _ hR (hρ a) (hρ b) (hρ d)
    exact ⟨Go.undef, w', .inr ⟨by simp [execOp, h1], rfl⟩, x, Env.le_refl x, h2, .v _, h3⟩
  case lookup t a b ok =>
    unfold lookOpK at h
    rw [evK_eq, evK_eq] at h
    refine (lookupK_got (B := B) h).mono fun m H' ⟨e, hm⟩ => OpDoes.val fun x w ρ hR hρ => ?_
    subst e
    obtain ⟨r, h1, h2⟩ := hm x w _ _ hR (hρ a) (hρ b)
    exact ⟨r, w, by simp [execOp, h1], Post.still hR h2⟩
  all_goals exact (not_fail h).elim
end Go.Proofs.YtoldgjieplblpaaGreat.Mini
