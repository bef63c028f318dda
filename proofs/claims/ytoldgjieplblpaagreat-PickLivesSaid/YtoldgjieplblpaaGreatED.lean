/- The small machine: what is reckoned out of an empty heap holds of every world. -/
import Derived.Test.YtoldgjieplblpaaGreatEC
import Derived.RangeFuncLeaves
import Derived.RangeFuncNested
namespace Go.Proofs.YtoldgjieplblpaaGreat.Mini
open Go.RowKit

variable {P : Program} {B : Nat}
def Ex.ex : Ex → Exit
  | .normal => .normal
  | .exit i => .exit i
  | .ret => .ret
/-- In which loop's round the code stands. -/
def RdAt (x : Env) (rd ro : Option Nat) : Prop :=
  match rd with
  | none => ro = none
  | some n => ∃ L, x n = some L ∧ ro = some L.b
theorem RdAt.le {x y : Env} {rd ro : Option Nat} (h : RdAt x rd ro) (hl : x.le y) : RdAt y rd ro := by
  cases rd with
  | none => exact h
  | some n => obtain ⟨L, h1, h2⟩ := h; exact ⟨L, hl _ _ h1, h2⟩
/-- What a stretch of code does. -/
def StretchDoes (B : Nat) (rd : Option Nat) (S : Fence → Nat → (Exit → Act → World → Prop) → Act → World → Prop) (F : Fr) (H : Heap) (e : Ex) (F' : Fr) (H' : Heap) : Prop :=
  ∀ (Fc : Fence) (n : Nat), Wd Fc → ∀ x w a Q, RdAt x rd Fc.round → Rel B x H w → FrAt x F a → (∀ y w' a', x.le y → Rel B y H' w' → FrAt y F' a' → Below B w w' → Q e.ex a' w') → S Fc n Q a w
def CodeDoes (P : Program) (B : Nat) (rd : Option Nat) (c : Code) (F : Fr) (H : Heap) (e : Ex) (F' : Fr) (H' : Heap) : Prop := StretchDoes B rd (fun Fc n Q a w => c.wpIn Fc n P Q a w) F H e F' H'
def LoopDoes (P : Program) (B : Nat) (rd : Option Nat) (c : Code) (F : Fr) (H : Heap) (e : Ex) (F' : Fr) (H' : Heap) : Prop :=
  ∀ b, c = .loop b → ∃ m, StretchDoes B rd (fun Fc n Q a w => Code.roundsIn Fc n P b Q m a w) F H e F' H'
def CodeOk (P : Program) (B : Nat) (body : Option Nat → Code → Fr → (Ex → Fr → Prg) → Prg) : Prop :=
  ∀ rd c F k H cn l out, run (body rd c F k) H cn l = some out → ∃ e F' H' c' l', run (k e F') H' c' l' = some out ∧ CodeDoes P B rd c F H e F' H' ∧ LoopDoes P B rd c F H e F' H'
/-- Stand-ins for functions: what they are said to do they do. -/
def StandOk (P : Program) (B : Nat) (X : FuncId → Option (List MV → (MV → Prg) → Prg)) : Prop :=
  ∀ f g, X f = some g → ∀ args k H c l out, run (g args k) H c l = some out → Got k out fun m H' => CallDoes P B f args m H H'
def FunOk (P : Program) (B : Nat) (call : FuncId → List MV → (MV → Prg) → Prg) : Prop :=
  ∀ f args k H c l out, run (call f args k) H c l = some out → Got k out fun m H' => CallDoes P B f args m H H'
def resSem (tmps : Array Value) : ResultVar → Sem Value
  | .tmp t => pure (tmps.getD t Go.undef)
  | .cell d t => do loadVar t (← asAddr (tmps.getD d Go.undef))
theorem results_eq (fn : Func) (tmps : Array Value) : results fn tmps = (do
    let vs ← fn.results.mapM (resSem tmps)
    pure (if h : vs.size = 1 then vs[0] else .tuple vs)) := by
  unfold results
  congr 1
theorem resK_got {F : Fr} : ∀ (rs : List ResultVar) (k : List MV → Prg) (H : Heap) (c : Nat) (l : Log) (out : MV × Heap × Nat × Log), run (resK P F rs k) H c l = some out →
    ∃ ms c' l', run (k ms) H c' l' = some out ∧ ∀ x tmps w, Rel B x H w → FrT x F tmps → ∃ vs, (rs.mapM (resSem tmps)).run P w = .ok vs w ∧ Rnds x ms vs
  | [], k, H, c, l, out, h => ⟨[], c, l, h, fun x a w _ _ => ⟨[], by simp, .nil⟩⟩
  | .tmp t :: rs, k, H, c, l, out, h => by
    unfold resK at h
    rw [evK_eq] at h
    obtain ⟨ms, c', l', h1, h2⟩ := resK_got rs _ _ _ _ _ h
    refine ⟨_ :: ms, c', l', h1, fun x a w hR ha => ?_⟩
    obtain ⟨vs, h3, h4⟩ := h2 x a w hR ha
    exact ⟨_, by simp only [List.mapM_cons, resSem, pure_bind, Sem.run_bind, h3, Result.andThen_ok, Sem.run_pure], .cons (ha.ev t) h4⟩
  | .cell d t :: rs, k, H, c, l, out, h => by
    unfold resK at h
    rw [evK_eq] at h
    obtain ⟨m, H1, c1, l1, h1, e, h2⟩ := loadK_got (B := B) h
    subst e
    obtain ⟨ms, c', l', h3, h4⟩ := resK_got rs _ _ _ _ _ h1
    refine ⟨m :: ms, c', l', h3, fun x a w hR ha => ?_⟩
    obtain ⟨vs, h5, h6⟩ := h4 x a w hR ha
    obtain ⟨u, h7, h8⟩ := h2 x w _ hR (ha.ev d)
    have hp : ∃ A, a.getD d Go.undef = .pointer (some A) := by
      have hev : Rnd x (F.ev (.tmp d)) (a.getD d Go.undef) := ha.ev d
      unfold loadK at h
      split at h
      · rename_i e
        rw [e] at hev
        generalize hq : a.getD d Go.undef = pv at hev
        cases hev
        exact ⟨_, rfl⟩
      · exact (not_fail h).elim
    obtain ⟨A, hA⟩ := hp
    have h9 : (resSem a (.cell d t)).run P w = .ok u w := by
      rw [hA] at h7
      simp only [Instr.loadAt, Instr.sureAddr, Sem.run_bind, Sem.run_pure, Result.andThen_ok] at h7
      simp only [resSem, hA, asAddr, Sem.run_bind, Sem.run_pure, Result.andThen_ok, h7]
    exact ⟨u :: vs, by simp only [List.mapM_cons, Sem.run_bind, h9, h5, Result.andThen_ok, Sem.run_pure], .cons h8 h6⟩
def oneOr : List Value → Value
  | [v] => v
  | vs => .tuple vs.toArray
theorem results_run {fn : Func} {tmps : Array Value} {w : World} {vs : List Value} (h : (fn.results.toList.mapM (resSem tmps)).run P w = .ok vs w) :
    (results fn tmps).run P w = .ok (oneOr vs) w := by
  rw [results_eq, Array.mapM_eq_mapM_toList]
  simp only [Sem.run_bind, map_eq_pure_bind, Sem.run_pure]
  have h' := h
  rw [h']
  simp only [Result.andThen_ok]
  match vs with
  | [] => rfl
  | [v] => rfl
  | v :: u :: vs => rfl
theorem shut_got : ∀ (ns : List Nat) (k : Prg) (H : Heap) (c : Nat) (l : Log) (out : MV × Heap × Nat × Log), run (shutK ns k) H c l = some out →
    ∃ H' l', run k H' c l' = some out ∧ ∀ (fn : Func) (tmps : Array Value) (R : Ending → World → Prop) x w ds, Rel B x H w → Marks x ns ds → (∀ w', Rel B x H' w' → Below B w w' → ∃ v, (results fn tmps).run P w' = .ok v w' ∧ R (.returned v) w') → LeavesInM Fence.wide 0 P fn tmps R ds .returning w
  | [], k, H, c, l, out, h => ⟨H, l, h, fun fn tmps R x w ds hR hm hK => by
    cases hm
    exact hK w hR (Below.refl B w)⟩
  | n :: ns, k, H, c, l, out, h => by
    unfold shutK at h
    obtain ⟨cell, l1, hg, h1⟩ := getC_got h
    clear h
    split at h1
    · obtain ⟨hf, l2, h2⟩ := setC_got h1
      obtain ⟨H', l', h3, h4⟩ := shut_got ns k _ _ _ _ h2
      refine ⟨H', l', h3, fun fn tmps R x w ds hR hm hK => ?_⟩
      cases hm with
      | cons hL hs =>
        rename_i L ds
        obtain ⟨L', g1, g2, g3, g4⟩ := hR.live n _ hg (fun e => by cases e)
        rw [hL] at g1; cases g1
        refine ⟨fun e => (by cases e), .inl ⟨L.b, _, rfl, run_takeDeferred g4, ?_⟩⟩
        exact h4 fn tmps R x _ ds (hR.putC hg (fun e => by cases e) hf hL (fun k hk => World.putObj_heap_other hk) (by simp) trivial) hs fun w' q1 q2 => hK w' q1 ((putObj_below g2 _).trans q2)
    · exact (not_fail h1).elim
theorem fun_got {X : FuncId → Option (List MV → (MV → Prg) → Prg)} (hX : StandOk P B X) (hN : ∀ (f : Nat) (fn : Func), P.funcs[f]? = some fn → (fn.name == "runtime.NumGoroutine") = false) {body : Option Nat → Code → Fr → (Ex → Fr → Prg) → Prg} (hb : CodeOk P B body) : FunOk P B (funK P X body) := by
  intro f args k H c l out h
  unfold funK at h
  split at h
  · rename_i g hg
    exact hX f g hg args k H c l out h
  · split at h
    · exact (not_fail h).elim
    · rename_i fn hfn
      split at h
      · exact (not_fail h).elim
      · rename_i cd hcd
        rw [forceN_eq] at h
        split at h
        · rename_i hle hfar
          have hle := ble_le hle
          have hfar := near_of_ble hfar
          rw [fillK_fill] at h
          obtain ⟨e, F', H', c', l', h1, h2, _⟩ := hb _ _ _ _ _ _ _ _ h
          have main : run (shutK F'.marks (resK P F' fn.results.toList fun ms => match ms with | [m] => k m | [] => k (.v (.tuple #[])) | m :: n :: ms => k (.tup (m :: n :: ms)))) H' c' l' = some out → (e.ex = .normal ∨ e.ex = .ret) → Got k out fun m H' => CallDoes P B f args m H H' := by
            intro h0 he
            obtain ⟨H2, l2, h3, hsh⟩ := shut_got (P := P) (B := B) _ _ _ _ _ _ h0
            obtain ⟨ms, c3, l3, h4, h5⟩ := resK_got (P := P) (B := B) _ _ _ _ _ _ h3
            have fin : ∀ m, run (k m) H2 c3 l3 = some out → (∀ x vs, Rnds x ms vs → Rnd x m (oneOr vs)) → Got k out fun m H' => CallDoes P B f args m H H' := by
              intro m hk hm
              refine ⟨m, H2, c3, l3, hk, fun x w vs hR hvs => ⟨?_, ?_⟩⟩
              · have hn := hN f fn hfn
                simp [callFunc, hfn, hcd]
                simpa using hn
              · refine callsIn_wide.1 (callsIn_of_wp_marks (n := 0) hfn hcd trivial ?_)
                refine h2 Fence.wide 0 Wd.wide x w _ _ rfl hR ⟨.nil, ?_, fun i => ?_⟩ fun y w' a' hy hR' ha' hB => ?_
                · have := hvs.length
                  simp
                  omega
                · rw [get_fill _ _ _ _ (by omega)]
                  have hl := hvs.length
                  by_cases hi : i < args.length
                  · rw [if_pos (by omega), Nat.sub_zero, List.getElem?_eq_getElem hi]
                    obtain ⟨v, q1, q2⟩ := hvs.get i args[i] (List.getElem?_eq_getElem hi)
                    have : (vs.toArray ++ Array.replicate (fn.ntmps - vs.toArray.size) Go.undef).getD i Go.undef = v := by
                      rw [Array.getD_eq_getD_getElem?, Array.getElem?_append_left (by simp; omega)]
                      simp [q1]
                    rw [this]
                    exact q2
                  · rw [if_neg (by omega), T.get_nil]
                    have : (vs.toArray ++ Array.replicate (fn.ntmps - vs.toArray.size) Go.undef).getD i Go.undef = Go.undef := by
                      rw [Array.getD_eq_getD_getElem?, Array.getElem?_append_right (by simp; omega), Array.getElem?_replicate]
                      split <;> rfl
                    rw [this]
                    exact .v _
                · have hleave : LeavesInM Fence.wide 0 P fn a'.tmps (fun e w'' => ∃ v, e = .returned v ∧ Post B x H2 m w v w'') a'.defers .returning w' := by
                    refine hsh fn a'.tmps _ y w' a'.defers hR' ha'.dfr fun w2 r1 r2 => ?_
                    obtain ⟨us, s1, s2⟩ := h5 y a'.tmps w2 r1 ha'.tm
                    exact ⟨_, results_run (P := P) s1, _, rfl, y, hy, r1, hm y us s2, hB.trans r2⟩
                  rcases he with he | he
                  · rw [he]; exact hleave
                  · rw [he]; exact hleave
            split at h4
            · refine fin _ h4 fun x vs hvs => ?_
              cases hvs with
              | cons q1 q2 => cases q2; exact q1
            · refine fin _ h4 fun x vs hvs => ?_
              cases hvs
              exact .v _
            · refine fin _ h4 fun x vs hvs => ?_
              cases hvs with
              | cons q1 q2 =>
                cases q2 with
                | cons q3 q4 => exact .tup (.cons q1 (.cons q3 q4))
          cases e with
          | normal => exact main h1 (.inl rfl)
          | exit i => exact (not_fail h1).elim
          | ret => exact main h1 (.inr rfl)
        · exact (not_fail h).elim
end Go.Proofs.YtoldgjieplblpaaGreat.Mini
