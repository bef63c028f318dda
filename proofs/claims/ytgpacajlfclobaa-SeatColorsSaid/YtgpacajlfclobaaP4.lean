/- Plain facts: the row does what the moves do in parallel. -/
import Derived.Test.YtgpacajlfclobaaP3
namespace Go.Proofs.Ytgpacajlfclobaa

/-- Registers, each with a number of what it holds. -/
abbrev Regs := Nat → Nat
def stepR (r : Regs) (m : Nat × Nat) : Regs := fun j => if j = m.1 then r m.2 else r j
def runR (r : Regs) (l : List (Nat × Nat)) : Regs := l.foldl stepR r
theorem runR_snoc (r : Regs) (l : List (Nat × Nat)) (m : Nat × Nat) : runR r (l ++ [m]) = stepR (runR r l) m := by simp [runR, List.foldl_append]
theorem stepR_at (r : Regs) (m : Nat × Nat) : stepR r m m.1 = r m.2 := if_pos rfl
theorem stepR_ne {r : Regs} {m : Nat × Nat} {j : Nat} (h : j ≠ m.1) : stepR r m j = r j := if_neg h
/-- What the moves do in parallel. -/
def wantF (F : PF) : Regs := fun j => (F j).getD j

/-- What holds of the registers while a row is made. -/
structure Sim (F : PF) (sp : Nat) (s : RSt) : Prop where
  sub : ∀ t x, s.fr t = some x → F t = some x
  done : ∀ t x, F t = some x → s.fr t = none → runR id s.dn t = x
  rest : ∀ r, F r = none → r ≠ sp → runR id s.dn r = r
  todo : ∀ t x, s.fr t = some x → runR id s.dn t = t
  copy : ∀ t x c, s.fr t = some x → s.cp x = some c → runR id s.dn c = x ∧ (s.fr c = none) ∧ c < 31
  uncop : ∀ t x, s.fr t = some x → s.cp x = none → ∀ y, F x = some y → s.fr x = some y
  reg : ∀ m ∈ s.dn, m.1 < 31 ∧ m.2 < 31
theorem sim_move {F : PF} (hF : FOk F) {sp : Nat} (hns : ∀ t x, F t = some x → t ≠ sp ∧ x ≠ sp) {s : RSt} (h : Sim F sp s) {t x : Nat} (hx : s.fr t = some x)
    (hok : ∀ o, s.fr o = some t → o ≠ t → (s.cp t).isSome = true) : Sim F sp (moveS s t) := by
  have hFx := h.sub t x hx
  obtain ⟨ht31, hx31, hxt⟩ := hF.ok t x hFx
  have hn : nextV s t = x := nextV_eq hx
  -- where the value is
  obtain ⟨c, hc, hcv, hcf, hc31⟩ : ∃ c, (s.cp x).getD x = c ∧ runR id s.dn c = x ∧ c ≠ t ∧ c < 31 := by
    cases hcp : s.cp x with
    | some c =>
      obtain ⟨h1, h2, h3⟩ := h.copy t x c hx hcp
      refine ⟨c, rfl, h1, fun e => ?_, h3⟩
      subst e
      rw [h2] at hx; cases hx
    | none =>
      refine ⟨x, rfl, ?_, hxt, hx31⟩
      cases hfx : F x with
      | none => exact h.rest x hfx (hns t x hFx).2
      | some y => exact h.todo x y (h.uncop t x hx hcp y hfx)
  have hdn : (moveS s t).dn = s.dn ++ [(t, c)] := by unfold moveS; rw [hn, hc]
  have hrun : runR id (moveS s t).dn = stepR (runR id s.dn) (t, c) := by rw [hdn, runR_snoc]
  have hrt : runR id (moveS s t).dn t = x := by rw [hrun]; show stepR _ (t, c) (t, c).1 = x; rw [stepR_at]; exact hcv
  have hro : ∀ j, j ≠ t → runR id (moveS s t).dn j = runR id s.dn j := fun j hj => by rw [hrun]; exact stepR_ne hj
  have hfr : ∀ u y, (moveS s t).fr u = some y → u ≠ t ∧ s.fr u = some y := fun u y hu => del_some hu
  have hcp' : ∀ y, (moveS s t).cp y = if (s.cp x).isSome then s.cp y else put s.cp x t y := fun y => by
    show (if (s.cp (nextV s t)).isSome then s.cp else put s.cp (nextV s t) t) y = _
    rw [hn]
    split <;> rfl
  refine ⟨fun u y hu => h.sub u y (hfr u y hu).2, fun u y hu hd => ?_, fun r hr hrs => ?_, fun u y hu => ?_, fun u y c' hu hcc => ?_, fun u y hu hcc z hz => ?_, fun m hm => ?_⟩
  · have hd' : del s.fr t u = none := hd
    by_cases e : u = t
    · subst e
      rw [hFx] at hu
      rw [hrt]
      simpa using hu
    · rw [del_ne e] at hd'
      rw [hro u e]
      exact h.done u y hu hd'
  · have hrt' : r ≠ t := fun e => by subst e; rw [hFx] at hr; cases hr
    rw [hro r hrt']
    exact h.rest r hr hrs
  · obtain ⟨e, hu'⟩ := hfr u y hu
    rw [hro u e]
    exact h.todo u y hu'
  · obtain ⟨e, hu'⟩ := hfr u y hu
    rw [hcp'] at hcc
    have old : s.cp y = some c' → runR id (moveS s t).dn c' = y ∧ (moveS s t).fr c' = none ∧ c' < 31 := fun hcy => by
      obtain ⟨h1, h2, h3⟩ := h.copy u y c' hu' hcy
      have hne : c' ≠ t := fun e => by subst e; rw [h2] at hx; cases hx
      refine ⟨by rw [hro c' hne]; exact h1, ?_, h3⟩
      show del s.fr t c' = none
      rw [del_ne hne]; exact h2
    split at hcc
    · exact old hcc
    · by_cases hyx : y = x
      · subst hyx
        rw [put_at] at hcc
        obtain rfl : t = c' := by simpa using hcc
        exact ⟨hrt, del_at _ _, ht31⟩
      · rw [put_ne hyx] at hcc
        exact old hcc
  · obtain ⟨e, hu'⟩ := hfr u y hu
    rw [hcp'] at hcc
    have hcy : s.cp y = none := by
      split at hcc
      · exact hcc
      · by_cases hyx : y = x
        · subst hyx; rw [put_at] at hcc; cases hcc
        · rwa [put_ne hyx] at hcc
    have h1 := h.uncop u y hu' hcy z hz
    show del s.fr t y = some z
    rw [del_ne]
    · exact h1
    · intro ey
      subst ey
      have := hok u hu' e
      rw [hcy] at this
      cases this
  · rw [hdn] at hm
    rcases List.mem_append.1 hm with c1 | c1
    · exact h.reg m c1
    · obtain rfl : m = (t, c) := by simpa using c1
      exact ⟨ht31, hc31⟩
theorem sim_break {F : PF} (hF : FOk F) {sp : Nat} (hsp : sp < 31) (hns : ∀ t x, F t = some x → t ≠ sp ∧ x ≠ sp) {s : RSt} (h : Sim F sp s) (hne : keysL s.fr ≠ []) (hno : freeO s = none) :
    Sim F sp (breakS sp s) ∧ (∃ x, s.fr (firstK s) = some x) ∧ ∀ t ∈ keysL s.fr, s.cp t = none := by
  obtain ⟨ht0, _⟩ := firstK_mem hne
  have hall : ∀ t ∈ keysL s.fr, readB s.fr t = true ∧ s.cp t = none := fun t ht => by
    have := List.find?_eq_none.1 hno t ht
    unfold okF at this
    rw [Bool.or_eq_true, not_or, Bool.not_eq_true', Bool.not_eq_false] at this
    exact ⟨this.1, by simpa using this.2⟩
  obtain ⟨x0, hx0⟩ := Option.isSome_iff_exists.1 (keysL_mem.1 ht0).2
  -- the pending ones are moved among themselves
  have hval : ∀ t ∈ keysL s.fr, s.fr t = some ((s.fr t).getD 0) := fun t ht => by
    obtain ⟨x, hx⟩ := Option.isSome_iff_exists.1 (keysL_mem.1 ht).2
    rw [hx]; rfl
  have hperm : (keysL s.fr).Perm ((keysL s.fr).map fun t => (s.fr t).getD 0) := perm_of_sub _ _ (keysL_nodup _) (fun t ht => by
    obtain ⟨o, ho, _, he⟩ := readB_iff.1 (hall t ht).1
    exact List.mem_map.2 ⟨o, ho, by rw [he]; rfl⟩) (by simp)
  have hinK : ∀ t x, s.fr t = some x → x ∈ keysL s.fr := fun t x hx => by
    have htk : t ∈ keysL s.fr := keysL_mem.2 ⟨(hF.ok t x (h.sub t x hx)).1, by rw [hx]; rfl⟩
    exact hperm.symm.subset (List.mem_map.2 ⟨t, htk, by rw [hx]; rfl⟩)
  refine ⟨?_, ⟨x0, hx0⟩, fun t ht => (hall t ht).2⟩
  have hFx0 := h.sub _ x0 hx0
  have hspf : s.fr sp = none := by
    cases hs : s.fr sp with
    | none => rfl
    | some y => exact absurd rfl (hns sp y (h.sub sp y hs)).1
  have hdn : (breakS sp s).dn = s.dn ++ [(sp, firstK s)] := rfl
  have hrun : runR id (breakS sp s).dn = stepR (runR id s.dn) (sp, firstK s) := by rw [hdn, runR_snoc]
  have hro : ∀ j, j ≠ sp → runR id (breakS sp s).dn j = runR id s.dn j := fun j hj => by rw [hrun]; exact stepR_ne hj
  refine ⟨h.sub, fun u y hu hd => ?_, fun r hr hrs => ?_, fun u y hu => ?_, fun u y c hu hcc => ?_, fun u y hu hcc z hz => ?_, fun m hm => ?_⟩
  · rw [hro u (hns u y hu).1]
    exact h.done u y hu hd
  · rw [hro r hrs]; exact h.rest r hr hrs
  · have hu' : s.fr u = some y := hu
    rw [hro u (hns u y (h.sub u y hu')).1]
    exact h.todo u y hu'
  · have hu' : s.fr u = some y := hu
    have hcc' : put s.cp (firstK s) sp y = some c := hcc
    have hyk := hinK u y hu'
    by_cases e : y = firstK s
    · subst e
      rw [put_at] at hcc'
      obtain rfl : sp = c := by simpa using hcc'
      refine ⟨?_, hspf, hsp⟩
      rw [hrun]
      show stepR _ (sp, firstK s) (sp, firstK s).1 = _
      rw [stepR_at]
      exact h.todo _ _ hx0
    · rw [put_ne e, (hall y hyk).2] at hcc'
      cases hcc'
  · have hu' : s.fr u = some y := hu
    have hcc' : put s.cp (firstK s) sp y = none := hcc
    by_cases e : y = firstK s
    · subst e; rw [put_at] at hcc'; cases hcc'
    · rw [put_ne e] at hcc'
      exact h.uncop u y hu' hcc' z hz
  · rw [hdn] at hm
    rcases List.mem_append.1 hm with c1 | c1
    · exact h.reg m c1
    · obtain rfl : m = (sp, firstK s) := by simpa using c1
      exact ⟨hsp, (hF.ok _ _ hFx0).1⟩
theorem sim_step {F : PF} (hF : FOk F) {sp : Nat} (hsp : sp < 31) (hns : ∀ t x, F t = some x → t ≠ sp ∧ x ≠ sp) {s : RSt} (h : Sim F sp s) (hne : keysL s.fr ≠ []) : Sim F sp (stepS sp s) := by
  unfold stepS
  split
  · rename_i t ht
    obtain ⟨hk, hok⟩ := freeO_some ht
    obtain ⟨x, hx⟩ := Option.isSome_iff_exists.1 (keysL_mem.1 hk).2
    refine sim_move hF hns h hx fun o ho hot => ?_
    have hr : readB s.fr t = true := readB_iff.2 ⟨o, keysL_mem.2 ⟨(hF.ok o t (h.sub o t ho)).1, by rw [ho]; rfl⟩, hot, ho⟩
    unfold okF at hok
    rw [hr] at hok
    simpa using hok
  · rename_i ht
    obtain ⟨h1, ⟨x, hx⟩, _⟩ := sim_break hF hsp hns h hne ht
    refine sim_move hF hns h1 hx fun o _ _ => ?_
    show (put s.cp (firstK s) sp (firstK s)).isSome = true
    rw [put_at]; rfl
theorem sim_start {l : List (Nat × Nat)} (sp : Nat) : Sim (fromF l) sp (startS l) := by
  refine ⟨fun _ _ h => h, fun t x h hd => ?_, fun _ _ _ => rfl, fun _ _ _ => rfl, fun t x c _ hc => (by cases hc), fun t x _ _ y hy => hy, fun m hm => (by cases hm)⟩
  have hd' : fromF l t = none := hd
  rw [h] at hd'; cases hd'
theorem iter_sim {l : List (Nat × Nat)} (hl : MOk l) {sp : Nat} (hsp : sp < 31) (hns : ∀ t x, fromF l t = some x → t ≠ sp ∧ x ≠ sp) : ∀ n, n ≤ (keysL (fromF l)).length → Sim (fromF l) sp (iterS sp (startS l) n)
  | 0, _ => sim_start sp
  | n + 1, hn => by
    have h := iter_sim hl hsp hns n (by omega)
    have h1 := iter_keys (sp := sp) (s := startS l) n (by show n ≤ (keysL (fromF l)).length; omega)
    have h1' : (keysL (iterS sp (startS l) n).fr).length + n = (keysL (fromF l)).length := h1
    exact sim_step (fromF_ok hl) hsp hns h (fun c => by rw [c] at h1'; simp at h1'; omega)
/-- The row does what is wanted. -/
theorem row_right {l : List (Nat × Nat)} (hl : MOk l) {sp : Nat} (hsp : sp < 31) (hns : ∀ t x, fromF l t = some x → t ≠ sp ∧ x ≠ sp) : (∀ m ∈ rowL l sp, m.1 < 31 ∧ m.2 < 31) ∧ ∀ r, r ≠ sp → runR id (rowL l sp) r = wantF (fromF l) r := by
  have h := iter_sim hl hsp hns _ (Nat.le_refl _)
  have h1 : (keysL (iterS sp (startS l) (keysL (fromF l)).length).fr).length + (keysL (fromF l)).length = (keysL (fromF l)).length := iter_keys (sp := sp) (s := startS l) _ (Nat.le_refl _)
  have h0 : keysL (iterS sp (startS l) (keysL (fromF l)).length).fr = [] := List.length_eq_zero_iff.1 (by omega)
  refine ⟨h.reg, fun r hr => ?_⟩
  unfold wantF
  cases hf : fromF l r with
  | none => exact h.rest r hf hr
  | some x =>
    refine h.done r x hf ?_
    cases hs : (iterS sp (startS l) (keysL (fromF l)).length).fr r with
    | none => rfl
    | some y =>
      have hm := keysL_mem (f := (iterS sp (startS l) (keysL (fromF l)).length).fr) (k := r)
      rw [h0] at hm
      have := hm.2 ⟨((fromF_ok hl).ok r x hf).1, by rw [hs]; rfl⟩
      cases this
end Go.Proofs.Ytgpacajlfclobaa
