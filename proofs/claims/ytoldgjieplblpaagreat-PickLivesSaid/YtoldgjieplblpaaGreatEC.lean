/- The small machine: code and calls; what is reckoned out of an empty heap holds of every world. -/
import Derived.Test.YtoldgjieplblpaaGreatEB
import Derived.LoopNIn
namespace Go.Proofs.YtoldgjieplblpaaGreat.Mini
open Go.RowKit

variable {P : Program} {B : Nat}
theorem stepR_scope' {b : Frame} {a : Act} {k : List Item} {cs : List Frame} {w : World} {c : Code} : step P (lone (b.atR a (.code (.scope c) :: k)) cs w) = .next (lone (b.atR a (.code c :: .inScope c :: k)) cs w) :=
  step_lone_go (by simp [stepG, stepG.exec, Frame.atR])
theorem stepR_inScope' {b : Frame} {a : Act} {k : List Item} {cs : List Frame} {w : World} {c : Code} : step P (lone (b.atR a (.inScope c :: k)) cs w) = .next (lone (b.atR a k) cs w) :=
  step_lone_go (by simp [stepG, stepG.exec, Frame.atR])
/-- A scope that nothing jumps in. -/
def noGoto (Q : Exit → Act → World → Prop) : Exit → Act → World → Prop
  | .goto _, _, _ => False
  | e, a, w => Q e a w
theorem wpIn_scope' {F : Fence} {n : Nat} {Q : Exit → Act → World → Prop} {a : Act} {w : World} {c : Code} (h : c.wpIn F n P (noGoto Q) a w) : (Code.scope c).wpIn F n P Q a w := by
  intro b k cs hro hb hr
  have h0 : (lone (b.atR a (.code (.scope c) :: k)) cs w).fenced P F := fenced_calm hb hr rfl
  obtain ⟨e, a₁, w₁, hq, harr⟩ := h b (.inScope c :: k) cs hro hb hr
  cases e with
  | normal => exact ⟨.normal, a₁, w₁, hq, .head h0 stepR_scope' (StepsIn.trans harr (.one (fenced_calm hb hr rfl) stepR_inScope'))⟩
  | exit id =>
    have hx : exitTo id (.inScope c :: k) = exitTo id k := by simp [exitTo]
    exact ⟨.exit id, a₁, w₁, hq, fun k' hk => .head h0 stepR_scope' (harr.1 k' (by rw [hx]; exact hk)),
      fun hr' hk => let ⟨k₁, h1, h2⟩ := harr.2 hr' (by rw [hx]; exact hk); ⟨k₁, h1, .head h0 stepR_scope' h2⟩⟩
  | goto l => exact hq.elim
  | ret => exact ⟨_, a₁, w₁, hq, .of_steps (.one h0 stepR_scope') harr⟩
  | panic ch => exact ⟨_, a₁, w₁, hq, .of_steps (.one h0 stepR_scope') harr⟩
  | outgrown => exact ⟨_, a₁, w₁, hq, .of_steps (.one h0 stepR_scope') harr⟩

/-! ### A region, as it was reckoned -/
def accOf (items : List Itm) : List (Nat × Log) := items.filterMap fun it => match it.L with | [] => none | e :: l => some (it.i, e :: l)
def RegRan (P : Program) (call : MV → List MV → (MV → Prg) → Prg) (ops : Array Oper) (rest : List Oper) (j : Nat) (F : Fr) (acc : List (Nat × Log)) (k : Fr → List (Nat × Log) → Prg) (H : Heap) (out : MV × Heap × Nat × Log) : Prop :=
  ∃ items F' H' c' l', run (k F' ((accOf items).reverse ++ acc)) H' c' l' = some out ∧ Ran P call ops items F H F' H' ∧ items.map (·.o) = rest ∧ ∀ (t : Nat) (it : Itm), items[t]? = some it → it.i = j + t
theorem regD_ran {call : MV → List MV → (MV → Prg) → Prg} {ops : Array Oper} : ∀ (rest : List Oper) (j : Nat) (F : Fr) (acc : List (Nat × Log)) (k : Fr → List (Nat × Log) → Prg) (H : Heap) (c : Nat) (l : Log) (out : MV × Heap × Nat × Log),
    run (regDK P call ops rest j F acc k) H c l = some out → RegRan P call ops rest j F acc k H out
  | [], j, F, acc, k, H, c, l, out, h => ⟨[], F, H, c, l, h, ⟨rfl, rfl⟩, rfl, fun t it h => by simp at h⟩
  | o :: rest, j, F, acc, k, H, c, l, out, h => by
    unfold regDK at h
    split at h
    · rename_i hw
      unfold run at h
      cases hr : run (opK P call F o .ret) H c [] with
      | none => rw [hr] at h; cases h
      | some q =>
        obtain ⟨m, H1, c1, L⟩ := q
        rw [hr] at h
        dsimp only at h
        obtain ⟨hf, h2⟩ := run_putK h
        have main : ∀ acc1, acc1 = (accOf [⟨j, o, c, c1, m, L⟩]).reverse ++ acc → run (regDK P call ops rest (Nat.succ j) (F.put o.dst m) acc1 k) H1 c1 (L ++ l) = some out → RegRan P call ops (o :: rest) j F acc k H out := fun acc1 e h3 => by
          obtain ⟨items, F', H', c', l', h4, h5, h6, h7⟩ := regD_ran rest (Nat.succ j) _ acc1 k _ _ _ _ h3
          refine ⟨⟨j, o, c, c1, m, L⟩ :: items, F', H', c', l', ?_, ⟨hf, .inl ⟨hw, H1, hr, h5⟩⟩, by simp [h6], fun t it ht => ?_⟩
          · subst e
            have e2 : (accOf (⟨j, o, c, c1, m, L⟩ :: items)).reverse ++ acc = (accOf items).reverse ++ ((accOf [⟨j, o, c, c1, m, L⟩]).reverse ++ acc) := by
              have : accOf (⟨j, o, c, c1, m, L⟩ :: items) = accOf [⟨j, o, c, c1, m, L⟩] ++ accOf items := by
                unfold accOf
                rw [← List.filterMap_append]
                rfl
              rw [this, List.reverse_append, List.append_assoc]
            rw [e2]
            exact h4
          · cases t with
            | zero => simp at ht; subst ht; rfl
            | succ t => rw [h7 t it (by simpa using ht)]; omega
        cases L with
        | nil => exact main acc (by simp [accOf]) h2
        | cons e L => exact main _ (by simp [accOf]) h2
    · rename_i hw
      obtain ⟨hf, h2⟩ := run_putK h
      obtain ⟨items, F', H', c', l', h4, h5, h6, h7⟩ := regD_ran rest (Nat.succ j) _ acc k _ _ _ _ h2
      refine ⟨⟨j, o, 0, 0, MV.undef, []⟩ :: items, F', H', c', l', ?_, ⟨hf, .inr ⟨hw, rfl, rfl, h5⟩⟩, by simp [h6], fun t it ht => ?_⟩
      · have : accOf (⟨j, o, 0, 0, MV.undef, []⟩ :: items) = accOf items := by simp [accOf]
        rw [this]
        exact h4
      · cases t with
        | zero => simp at ht; subst ht; rfl
        | succ t => rw [h7 t it (by simpa using ht)]; omega
theorem logsOk1_spec {M : List Nat} {j : Nat} {L : Log} : ∀ (l : List (Nat × Log)), logsOk1 M j L l = true → ∀ q ∈ l, bitAt (M.getD j 0) q.1 = true ∨ Apart q.2 L
  | [], _, q, hq => by cases hq
  | (i, K) :: rest, h, q, hq => by
    unfold logsOk1 at h
    rw [Bool.and_eq_true, Bool.or_eq_true] at h
    rcases List.mem_cons.1 hq with rfl | hq
    · exact h.1.imp id logsApart_spec
    · exact logsOk1_spec rest h.2 q hq
theorem logsOk_spec {M : List Nat} : ∀ (l : List (Nat × Log)), logsOk M l = true → l.Pairwise fun a b => bitAt (M.getD a.1 0) b.1 = true ∨ Apart b.2 a.2
  | [], _ => List.Pairwise.nil
  | (j, L) :: rest, h => by
    unfold logsOk at h
    rw [Bool.and_eq_true] at h
    exact List.pairwise_cons.2 ⟨fun q hq => logsOk1_spec rest h.1 q hq, logsOk_spec rest h.2⟩
theorem staticOk1_spec {ops : Array Oper} {M : List Nat} {j : Nat} {oj : Oper} : ∀ (pre : List Oper) (i : Nat), staticOk1 ops M j oj pre i = true → ∀ s os, pre[s]? = some os → bitAt (M.getD j 0) (i + s) = true ∨ os.apart ops oj = true
  | [], i, _, s, os, h => by simp at h
  | o :: pre, i, h, s, os, hs => by
    unfold staticOk1 at h
    rw [Bool.and_eq_true, Bool.or_eq_true] at h
    cases s with
    | zero => simp at hs; subst hs; exact h.1
    | succ s =>
      have := staticOk1_spec pre (i + 1) h.2 s os (by simpa using hs)
      rwa [show i + (s + 1) = i + 1 + s by omega]
theorem staticGo_spec {ops : Array Oper} {M : List Nat} : ∀ (l pre : List Oper) (j : Nat), pre.length = j → staticGo ops M pre l j = true → ∀ t ot, l[t]? = some ot → edgesIn ot (j + t) = true ∧ ∀ s os, (pre ++ l)[s]? = some os → s < j + t → bitAt (M.getD (j + t) 0) s = true ∨ os.apart ops ot = true
  | [], pre, j, _, _, t, ot, h => by simp at h
  | o :: l, pre, j, hl, h, t, ot, ht => by
    unfold staticGo at h
    rw [Bool.and_eq_true, Bool.and_eq_true] at h
    cases t with
    | zero =>
      simp at ht
      subst ht
      refine ⟨h.1.1, fun s os hs hlt => ?_⟩
      have := staticOk1_spec pre 0 h.1.2 s os (by rw [List.getElem?_append_left (by omega)] at hs; exact hs)
      rwa [Nat.zero_add] at this
    | succ t =>
      obtain ⟨h1, h2⟩ := staticGo_spec l (pre ++ [o]) (j + 1) (by simp; omega) h.2 t ot (by simpa using ht)
      refine ⟨by rwa [show j + (t + 1) = j + 1 + t by omega], fun s os hs hlt => ?_⟩
      have := h2 s os (by simpa using hs) (by omega)
      rwa [show j + (t + 1) = j + 1 + t by omega]
theorem static_spec {ops : Array Oper} (h : staticOk ops = true) : (∀ j o, ops[j]? = some o → ∀ e ∈ o.after, Region.binds .any e = true → e.on < j) ∧
    ∀ s t os ot, s < t → ops[s]? = some os → ops[t]? = some ot → bitAt ((maskGo ops.toList []).getD t 0) s = true ∨ os.apart ops ot = true := by
  have := staticGo_spec ops.toList [] 0 rfl h
  refine ⟨fun j o ho e he hb => ?_, fun s t os ot hst hs ht => ?_⟩
  · have h1 := (this j o (by simpa using ho)).1
    unfold edgesIn at h1
    have := List.all_eq_true.1 h1 e (by simpa using he)
    rw [hb] at this
    simpa using this
  · have := (this t ot (by simpa using ht)).2 s os (by simpa using hs) (by omega)
    simpa using this
theorem rem_start {ops : Array Oper} (hs : staticOk ops = true) {items : List Itm} (hl : logsOk (maskGo ops.toList []) (accOf items).reverse = true) (ho : items.map (·.o) = ops.toList) (hi : ∀ (t : Nat) (it : Itm), items[t]? = some it → it.i = 0 + t) : Rem ops (Array.replicate ops.size false) items := by
  obtain ⟨h1, h2⟩ := static_spec hs
  have hat : ∀ (t : Nat) (it : Itm), items[t]? = some it → it.i = t ∧ ops[t]? = some it.o := fun t it ht => by
    refine ⟨by rw [hi t it ht]; omega, ?_⟩
    have : (items.map (·.o))[t]? = some it.o := by rw [List.getElem?_map, ht]; rfl
    rw [ho] at this
    simpa using this
  have hp := logsOk_spec _ hl
  rw [List.pairwise_reverse] at hp
  unfold accOf at hp
  rw [List.pairwise_filterMap] at hp
  refine ⟨?_, fun it hit => ?_, fun j o hj hl => ?_, by simp, fun j o hj hl => ?_⟩
  · rw [List.pairwise_iff_getElem] at hp ⊢
    intro s t hs' ht' hst
    obtain ⟨a1, a2⟩ := hat s items[s] (List.getElem?_eq_getElem hs')
    obtain ⟨b1, b2⟩ := hat t items[t] (List.getElem?_eq_getElem ht')
    refine ⟨by omega, ?_⟩
    have hlog : bitAt ((maskGo ops.toList []).getD items[t].i 0) items[s].i = true ∨ Apart items[s].L items[t].L := by
      cases e1 : items[s].L with
      | nil => exact .inr (apart_nil_left _)
      | cons x l1 =>
        cases e2 : items[t].L with
        | nil => exact .inr (apart_nil_right _)
        | cons y l2 =>
          have := hp s t hs' ht' hst (items[s].i, x :: l1) (by rw [e1]) (items[t].i, y :: l2) (by rw [e2])
          exact this
    rcases hlog with hb | hb
    · exact .inl hb
    · rcases h2 s t _ _ hst a2 b2 with hc | hc
      · rw [a1, b1]; exact .inl hc
      · exact .inr ⟨hc, hb⟩
  · obtain ⟨t, ht⟩ := List.getElem?_of_mem hit
    obtain ⟨a1, a2⟩ := hat t it ht
    refine ⟨by rw [a1]; exact a2, ?_⟩
    have hlt : it.i < ops.size := by rw [a1]; exact (Array.getElem?_eq_some_iff.1 a2).1
    simp [Array.getD, hlt]
  · have hlt : j < ops.size := (Array.getElem?_eq_some_iff.1 hj).1
    have hlen : items.length = ops.size := by
      have := congrArg List.length ho
      simpa using this
    exact ⟨items[j], List.getElem_mem _, (hat j items[j] (List.getElem?_eq_getElem (by omega))).1⟩
  · have hlt : j < ops.size := (Array.getElem?_eq_some_iff.1 hj).1
    exfalso
    simp [Array.getD, hlt] at hl
end Go.Proofs.YtoldgjieplblpaaGreat.Mini
