/- Plain facts: no list of moves that does the same is shorter. -/
import Derived.Test.YtgpacajlfclobaaP4
namespace Go.Proofs.Ytgpacajlfclobaa

theorem choose_fun {p : Nat → Prop} {q : Nat → Nat → Prop} (h : ∀ t, p t → ∃ j, q t j) : ∃ f : Nat → Nat, ∀ t, p t → q t (f t) :=
  ⟨fun t => @dite _ (∃ j, q t j) (Classical.propDecidable _) (fun h => Classical.choose h) (fun _ => 0), fun t ht => by
    have hx := h t ht
    show q t (@dite _ (∃ j, q t j) (Classical.propDecidable _) (fun h => Classical.choose h) (fun _ => 0))
    rw [dif_pos hx]
    exact Classical.choose_spec hx⟩
section
variable (os : List (Nat × Nat))
def Rk (k : Nat) : Regs := runR id (os.take k)
def Wk (k : Nat) : Nat := (os.getD k (0, 0)).1
def Vk (k : Nat) : Nat := Rk os k (os.getD k (0, 0)).2
end
theorem Rk_succ {os : List (Nat × Nat)} {k : Nat} (h : k < os.length) (x : Nat) : Rk os (k + 1) x = if x = Wk os k then Vk os k else Rk os k x := by
  unfold Rk Wk Vk
  have e : os.getD k (0, 0) = os[k] := by rw [List.getD_eq_getElem?_getD, List.getElem?_eq_getElem h]; rfl
  rw [List.take_succ_eq_append_getElem h, runR_snoc, ← e]
  rfl
theorem last_write (os : List (Nat × Nat)) (x : Nat) : ∀ k, k ≤ os.length → ((∀ i, i < k → Wk os i ≠ x) ∧ Rk os k x = x) ∨ ∃ j, j < k ∧ Wk os j = x ∧ (∀ i, j < i → i < k → Wk os i ≠ x) ∧ Rk os k x = Vk os j
  | 0, _ => .inl ⟨fun i hi => absurd hi (Nat.not_lt_zero _), rfl⟩
  | k + 1, hk => by
    rw [Rk_succ (by omega)]
    by_cases c : x = Wk os k
    · rw [if_pos c]
      exact .inr ⟨k, by omega, c.symm, fun i h1 h2 => by omega, rfl⟩
    · rw [if_neg c]
      rcases last_write os x k (by omega) with ⟨h1, h2⟩ | ⟨j, h1, h2, h3, h4⟩
      · refine .inl ⟨fun i hi => ?_, h2⟩
        by_cases e : i = k
        · subst e; exact fun e => c e.symm
        · exact h1 i (by omega)
      · refine .inr ⟨j, by omega, h2, fun i h5 h6 => ?_, h4⟩
        by_cases e : i = k
        · subst e; exact fun e => c e.symm
        · exact h3 i h5 (by omega)
theorem held_before {os : List (Nat × Nat)} {r : Nat} : ∀ d k, k + d ≤ os.length → (∃ x, Rk os (k + d) x = r) → ∃ x, Rk os k x = r
  | 0, _, _, h => h
  | d + 1, k, hk, ⟨x, hx⟩ => by
    refine held_before d k (by omega) ?_
    rw [← Nat.add_assoc, Rk_succ (by omega)] at hx
    split at hx
    · exact ⟨_, hx⟩
    · exact ⟨x, hx⟩
/-- The last write of a register. -/
def LastW (os : List (Nat × Nat)) (t j : Nat) : Prop := j < os.length ∧ Wk os j = t ∧ (∀ i, j < i → i < os.length → Wk os i ≠ t) ∧ Rk os os.length t = Vk os j
/-- No list is shorter. -/
theorem row_least {l os : List (Nat × Nat)} (hl : MOk l) {sp : Nat} (hns : ∀ t x, fromF l t = some x → t ≠ sp ∧ x ≠ sp) (hr : ∀ r, r < 31 → r ≠ sp → runR id os r = wantF (fromF l) r) : (rowL l 31).length ≤ os.length := by
  obtain ⟨B, hBn, hB, hlen⟩ := row_len hl 31
  have hF := fromF_ok hl
  have hfin : ∀ t x, fromF l t = some x → Rk os os.length t = x := fun t x h => by
    unfold Rk
    rw [List.take_length, hr t (hF.ok t x h).1 (hns t x h).1]
    unfold wantF
    rw [h]; rfl
  have hlast : ∀ t, t ∈ keysL (fromF l) → ∃ j, LastW os t j := fun t ht => by
    obtain ⟨x, hx⟩ := Option.isSome_iff_exists.1 (keysL_mem.1 ht).2
    have h1 := hfin t x hx
    rcases last_write os t os.length (Nat.le_refl _) with ⟨_, h2⟩ | ⟨j, h2, h3, h4, h5⟩
    · rw [h1] at h2
      exact absurd h2 (hF.ok t x hx).2.2
    · exact ⟨j, h2, h3, h4, h5⟩
  have hextra : ∀ t, t ∈ B → ∃ j, j < os.length ∧ (∃ i, itF (fromF l) t i = some (Vk os j)) ∧ ∀ u x, fromF l u = some x → ¬ LastW os u j := fun t ht => by
    have hL := (hB t).1 ht
    have hkey : ∀ i x, itF (fromF l) t i = some x → ∃ y, fromF l x = some y := fun i x hx => by
      obtain ⟨k, hk, hret, hs⟩ := hL
      obtain ⟨i', hi', e⟩ := ring_mod hk hret (fun j hj => by obtain ⟨x, h1, _⟩ := hs j hj; exact ⟨x, h1⟩) (i + 1)
      obtain ⟨y, hy, _⟩ := hs i' hi'
      rw [hy] at e
      have e2 : (itF (fromF l) t i).bind (fromF l) = some y := e
      rw [hx] at e2
      exact ⟨y, e2⟩
    have h0 : ∃ j, (fun j => j < os.length ∧ ∃ i, itF (fromF l) t i = some (Wk os j)) j := by
      obtain ⟨y, hy⟩ := hkey 0 t rfl
      obtain ⟨j, h1, h2, _⟩ := hlast t (hF.key hy)
      exact ⟨j, h1, 0, by rw [h2]; rfl⟩
    obtain ⟨jx, hjx⟩ := h0
    obtain ⟨j0, ⟨hj0, i0, hi0⟩, hmin⟩ := least_nat (p := fun j => j < os.length ∧ ∃ i, itF (fromF l) t i = some (Wk os j)) jx hjx
    have hun : ∀ i y, itF (fromF l) t i = some y → Rk os j0 y = y := fun i y hy => by
      rcases last_write os y j0 (by omega) with ⟨_, h2⟩ | ⟨j, h2, h3, _⟩
      · exact h2
      · exact absurd ⟨by omega, i, by rw [h3]; exact hy⟩ (hmin j h2)
    generalize hrr : Wk os j0 = r at *
    by_cases hv : Vk os j0 = r
    · refine ⟨j0, hj0, ⟨i0, by rw [hv]; exact hi0⟩, fun u x hu hla => ?_⟩
      obtain ⟨_, h2, _, h4⟩ := hla
      have hur : u = r := by rw [← h2, hrr]
      subst hur
      rw [hfin u x hu, hv] at h4
      exact (hF.ok u x hu).2.2 h4
    · obtain ⟨hrd, _, ⟨io, o, ho, hFo⟩, _⟩ := hL.at hi0
      obtain ⟨x, hx⟩ : ∃ x, Rk os (j0 + 1) x = r := by
        refine held_before (os.length - (j0 + 1)) (j0 + 1) (by omega) ⟨o, ?_⟩
        rw [show j0 + 1 + (os.length - (j0 + 1)) = os.length by omega]
        exact hfin o r hFo
      have hxr : x ≠ r := fun e => by
        subst e
        rw [Rk_succ hj0, if_pos hrr.symm] at hx
        exact hv hx
      rw [Rk_succ hj0, hrr, if_neg hxr] at hx
      rcases last_write os x j0 (by omega) with ⟨_, h2⟩ | ⟨j1, h2, h3, _, h5⟩
      · rw [hx] at h2; exact absurd h2.symm hxr
      · rw [hx] at h5
        refine ⟨j1, by omega, ⟨i0, by rw [← h5]; exact hi0⟩, fun u y hu hla => ?_⟩
        obtain ⟨_, h6, _, h8⟩ := hla
        have hux : u = x := by rw [← h6, h3]
        subst hux
        rw [hfin u y hu, ← h5] at h8
        rw [h8] at hu
        have := rd_one hF hrd hu hFo
        rw [← this] at ho
        have := hun io u ho
        rw [hx] at this
        exact hxr this.symm
  obtain ⟨fl, hfl⟩ := choose_fun hlast
  obtain ⟨fe, hfe⟩ := choose_fun hextra
  have hnd : ((keysL (fromF l)).map fl ++ B.map fe).Nodup := by
    rw [List.nodup_append]
    refine ⟨?_, ?_, fun a ha b hb => ?_⟩
    · rw [List.nodup_iff_pairwise_ne, List.pairwise_map]
      refine (keysL_nodup (fromF l)).imp_of_mem ?_
      intro a b ha hb hab e
      have h1 := (hfl a ha).2.1
      have h2 := (hfl b hb).2.1
      rw [e, h2] at h1
      exact hab h1.symm
    · rw [List.nodup_iff_pairwise_ne, List.pairwise_map]
      refine hBn.imp_of_mem ?_
      intro a b ha hb hab e
      obtain ⟨_, ⟨i1, h1⟩, _⟩ := hfe a ha
      obtain ⟨_, ⟨i2, h2⟩, _⟩ := hfe b hb
      rw [e] at h1
      obtain ⟨_, _, _, m1, hm1⟩ := ((hB a).1 ha).at h1
      obtain ⟨_, _, _, m2, hm2⟩ := ((hB b).1 hb).at h2
      have e1 := itF_add (fromF l) b i2 m1
      rw [h2] at e1
      have e1' : itF (fromF l) b (i2 + m1) = some a := e1.trans hm1
      have e2 := itF_add (fromF l) a i1 m2
      rw [h1] at e2
      have e2' : itF (fromF l) a (i1 + m2) = some b := e2.trans hm2
      have l1 := (((hB b).1 hb).at e1').2.1
      have l2 := (((hB a).1 ha).at e2').2.1
      exact hab (by omega)
    · obtain ⟨t, ht, rfl⟩ := List.mem_map.1 ha
      obtain ⟨u, hu, rfl⟩ := List.mem_map.1 hb
      intro e
      obtain ⟨x, hx⟩ := Option.isSome_iff_exists.1 (keysL_mem.1 ht).2
      refine (hfe u hu).2.2 t x hx ?_
      rw [← e]
      exact hfl t ht
  have := sub_len _ (List.range os.length) hnd fun x hx => by
    rw [List.mem_range]
    rcases List.mem_append.1 hx with c | c
    · obtain ⟨t, ht, rfl⟩ := List.mem_map.1 c
      exact (hfl t ht).1
    · obtain ⟨t, ht, rfl⟩ := List.mem_map.1 c
      exact (hfe t ht).1
  rw [List.length_append, List.length_map, List.length_map, List.length_range] at this
  omega
end Go.Proofs.Ytgpacajlfclobaa
