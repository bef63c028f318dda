/- Plain facts on rings: how often a register must be freed. -/
import Derived.Test.YtjfpaelmcepidaaP1
namespace Go.Proofs.Ytjfpaelmcepidaa

structure FOk (F : PF) : Prop where
  ok : ∀ t x, F t = some x → t < 31 ∧ x < 31 ∧ x ≠ t
theorem fromF_ok {l : List (Nat × Nat)} (h : MOk l) : FOk (fromF l) := ⟨fun t x hx => by
  obtain ⟨h1, h2⟩ := (fromF_iff h).1 hx
  obtain ⟨h3, h4⟩ := h.reg _ h1
  exact ⟨by omega, by omega, h2⟩⟩
theorem FOk.key {F : PF} (h : FOk F) {t x : Nat} (hx : F t = some x) : t ∈ keysL F := keysL_mem.2 ⟨(h.ok t x hx).1, by rw [hx]; rfl⟩
/-- Where one comes from a register. -/
def itF (F : PF) (t : Nat) : Nat → Option Nat
  | 0 => some t
  | j + 1 => (itF F t j).bind F
theorem itF_add (F : PF) (t : Nat) (i j : Nat) : itF F t (i + j) = (itF F t i).bind fun x => itF F x j := by
  induction j with
  | zero => cases itF F t i <;> rfl
  | succ j ih =>
    rw [← Nat.add_assoc]
    show (itF F t (i + j)).bind F = _
    rw [ih]
    cases itF F t i <;> rfl
/-- The least register of a ring that nothing else reads. -/
def LeastR (F : PF) (t : Nat) : Prop := ∃ k, 0 < k ∧ itF F t k = some t ∧ ∀ j, j < k → ∃ x, itF F t j = some x ∧ rdN F x = 1 ∧ t ≤ x
theorem rd_one {F : PF} (h : FOk F) {x a b : Nat} (hr : rdN F x = 1) (ha : F a = some x) (hb : F b = some x) : a = b := by
  unfold rdN at hr
  obtain ⟨c, hc⟩ := List.length_eq_one_iff.1 hr
  have h1 : a ∈ (keysL F).filter fun o => decide (F o = some x) := List.mem_filter.2 ⟨h.key ha, by simpa using ha⟩
  have h2 : b ∈ (keysL F).filter fun o => decide (F o = some x) := List.mem_filter.2 ⟨h.key hb, by simpa using hb⟩
  rw [hc] at h1 h2
  rw [List.mem_singleton] at h1 h2
  rw [h1, h2]
theorem ring_mod {F : PF} {t k : Nat} (hk : 0 < k) (hr : itF F t k = some t) (hs : ∀ j, j < k → ∃ x, itF F t j = some x) : ∀ j, ∃ i, i < k ∧ itF F t j = itF F t i
  | 0 => ⟨0, hk, rfl⟩
  | j + 1 => by
    obtain ⟨i, hi, e⟩ := ring_mod hk hr hs j
    have e1 : itF F t (j + 1) = itF F t (i + 1) := by show (itF F t j).bind F = (itF F t i).bind F; rw [e]
    by_cases c : i + 1 < k
    · exact ⟨i + 1, c, e1⟩
    · obtain rfl : k = i + 1 := by omega
      exact ⟨0, hk, e1.trans hr⟩
theorem LeastR.at {F : PF} {t : Nat} (h : LeastR F t) {j x : Nat} (hx : itF F t j = some x) : rdN F x = 1 ∧ t ≤ x ∧ (∃ i o, itF F t i = some o ∧ F o = some x) ∧ ∃ m, itF F x m = some t := by
  obtain ⟨k, hk, hr, hs⟩ := h
  obtain ⟨i, hi, e⟩ := ring_mod hk hr (fun j hj => by obtain ⟨x, h1, _⟩ := hs j hj; exact ⟨x, h1⟩) j
  obtain ⟨y, h1, h2, h3⟩ := hs i hi
  rw [hx] at e
  rw [h1] at e
  obtain rfl : x = y := by simpa using e
  refine ⟨h2, h3, ?_, k - i, ?_⟩
  · by_cases c : i = 0
    · subst c
      obtain ⟨o, ho, _⟩ := hs (k - 1) (by omega)
      refine ⟨k - 1, o, ho, ?_⟩
      have e2 : itF F t (k - 1 + 1) = itF F t k := by rw [Nat.sub_add_cancel hk]
      have e3 : (itF F t (k - 1)).bind F = itF F t k := e2
      rw [ho, hr] at e3
      have e4 : some t = some x := h1
      rw [← e4]
      exact e3
    · obtain ⟨o, ho, _⟩ := hs (i - 1) (by omega)
      refine ⟨i - 1, o, ho, ?_⟩
      have e2 : itF F t (i - 1 + 1) = itF F t i := by rw [Nat.sub_add_cancel (by omega)]
      have e3 : (itF F t (i - 1)).bind F = itF F t i := e2
      rw [ho, h1] at e3
      exact e3
  · have := itF_add F t i (k - i)
    rw [show i + (k - i) = k by omega, hr, h1] at this
    exact this.symm

/-- What holds while a row is made: B are the registers that were freed. -/
structure Inv (F : PF) (s : RSt) (B : List Nat) : Prop where
  sub : ∀ t x, s.fr t = some x → F t = some x
  cp : ∀ x, (s.cp x).isSome = true ↔ (∃ t, F t = some x ∧ s.fr t = none) ∨ x ∈ B
  bdone : ∀ t ∈ B, s.fr t = none
  nodup : B.Nodup
  ring : ∀ t ∈ B, LeastR F t
  all : ∀ t, LeastR F t → (∃ j x, itF F t j = some x ∧ s.fr x = none) → t ∈ B
  count : s.dn.length + (keysL s.fr).length = (keysL F).length + B.length
theorem Inv.start {l : List (Nat × Nat)} : Inv (fromF l) (startS l) [] := by
  refine ⟨fun _ _ h => h, fun x => ?_, fun t ht => (by cases ht), List.nodup_nil, fun t ht => (by cases ht), fun t ht => ?_, by simp [startS]⟩
  · constructor
    · intro h; cases h
    · rintro (⟨t, h1, h2⟩ | h)
      · have h2' : fromF l t = none := h2
        rw [h1] at h2'; cases h2'
      · cases h
  · rintro ⟨j, x, h1, h2⟩
    exfalso
    have h2' : fromF l x = none := h2
    obtain ⟨_, _, _, m, hm⟩ := ht.at h1
    obtain ⟨k, hk, hr, hs⟩ := ht
    have e := itF_add (fromF l) t j 1
    rw [h1] at e
    have e' : itF (fromF l) t (j + 1) = none := by rw [e]; show (itF (fromF l) x 0).bind (fromF l) = none; exact h2'
    obtain ⟨i, hi, e2⟩ := ring_mod hk hr (fun j hj => by obtain ⟨x, h1, _⟩ := hs j hj; exact ⟨x, h1⟩) (j + 1)
    obtain ⟨y, hy, _⟩ := hs i hi
    rw [e', hy] at e2
    cases e2
theorem nextV_eq {s : RSt} {t x : Nat} (h : s.fr t = some x) : nextV s t = x := by unfold nextV; rw [h]; rfl
theorem readB_iff {f : PF} {t : Nat} : readB f t = true ↔ ∃ o, o ∈ keysL f ∧ o ≠ t ∧ f o = some t := by
  unfold readB
  rw [List.any_eq_true]
  constructor
  · rintro ⟨o, h1, h2⟩
    rw [Bool.and_eq_true, decide_eq_true_iff, decide_eq_true_iff] at h2
    exact ⟨o, h1, h2.1, h2.2⟩
  · rintro ⟨o, h1, h2, h3⟩
    refine ⟨o, h1, ?_⟩
    rw [Bool.and_eq_true, decide_eq_true_iff, decide_eq_true_iff]
    exact ⟨h2, h3⟩
theorem Inv.free {F : PF} (hF : FOk F) {s : RSt} {B : List Nat} (h : Inv F s B) {t : Nat} (ht : t ∈ keysL s.fr) (hok : okF s t = true) : Inv F (moveS s t) B := by
  obtain ⟨x, hx⟩ := Option.isSome_iff_exists.1 (keysL_mem.1 ht).2
  have hFx := h.sub t x hx
  have hn := nextV_eq hx
  refine ⟨fun u y hu => h.sub u y (del_some hu).2, fun y => ?_, fun u hu => ?_, h.nodup, h.ring, fun u hu => ?_, ?_⟩
  · show (Option.isSome ((if (s.cp (nextV s t)).isSome then s.cp else put s.cp (nextV s t) t) y)) = true ↔ _
    rw [hn]
    by_cases hy : y = x
    · subst hy
      constructor
      · intro _
        exact .inl ⟨t, hFx, del_at _ _⟩
      · intro _
        split
        · assumption
        · rw [put_at]; rfl
    · have e : (if (s.cp x).isSome then s.cp else put s.cp x t) y = s.cp y := by
        split
        · rfl
        · rw [put_ne hy]
      rw [e, h.cp]
      constructor
      · rintro (⟨u, h1, h2⟩ | h1)
        · refine .inl ⟨u, h1, ?_⟩
          by_cases c : u = t
          · subst c; exact del_at _ _
          · show del s.fr t u = none
            rw [del_ne c]; exact h2
        · exact .inr h1
      · rintro (⟨u, h1, h2⟩ | h1)
        · refine .inl ⟨u, h1, ?_⟩
          have c : u ≠ t := fun c => by
            subst c
            rw [hFx] at h1
            exact hy (by simpa using h1.symm)
          have h2' : del s.fr t u = none := h2
          rwa [del_ne c] at h2'
        · exact .inr h1
  · by_cases c : u = t
    · subst c; exact del_at _ _
    · show del s.fr t u = none
      rw [del_ne c]; exact h.bdone u hu
  · rintro ⟨j, y, h1, h2⟩
    have h2' : del s.fr t y = none := h2
    by_cases c : y = t
    · subst c
      obtain ⟨hr1, _, ⟨i, o, ho, hFo⟩, _⟩ := hu.at h1
      cases hso : s.fr o with
      | none => exact h.all u hu ⟨i, o, ho, hso⟩
      | some z =>
        exfalso
        have e := h.sub o z hso
        rw [hFo] at e
        obtain rfl : y = z := by simpa using e
        have hne : o ≠ y := fun e => (hF.ok o y hFo).2.2 e.symm
        have hrd : readB s.fr y = true := readB_iff.2 ⟨o, keysL_mem.2 ⟨(hF.ok o y hFo).1, by rw [hso]; rfl⟩, hne, hso⟩
        unfold okF at hok
        rw [hrd] at hok
        have hcp : (s.cp y).isSome = true := by simpa using hok
        rcases (h.cp y).1 hcp with ⟨o', h3, h4⟩ | h3
        · have := rd_one hF hr1 hFo h3
          subst this
          rw [hso] at h4; cases h4
        · rw [h.bdone y h3] at hx; cases hx
    · rw [del_ne c] at h2'
      exact h.all u hu ⟨j, y, h1, h2'⟩
  · have h1 := keysL_del ht
    have h2 := h.count
    show (s.dn ++ [_]).length + (keysL (del s.fr t)).length = _
    rw [List.length_append]
    simp only [List.length_cons, List.length_nil]
    omega
theorem firstK_mem {s : RSt} (h : keysL s.fr ≠ []) : firstK s ∈ keysL s.fr ∧ ∀ k ∈ keysL s.fr, firstK s ≤ k := by
  have hs := keysL_sorted s.fr
  unfold firstK
  cases hk : keysL s.fr with
  | nil => exact absurd hk h
  | cons a l =>
    rw [hk] at hs
    refine ⟨by simp, fun k hkm => ?_⟩
    rcases List.mem_cons.1 hkm with rfl | hkm
    · exact Nat.le_refl _
    · exact Nat.le_of_lt ((List.pairwise_cons.1 hs).1 k hkm)
theorem inv_break {F : PF} (hF : FOk F) {s : RSt} {B : List Nat} (h : Inv F s B) (hne : keysL s.fr ≠ []) (hno : freeO s = none) (sp : Nat) : LeastR F (firstK s) ∧ Inv F (moveS (breakS sp s) (firstK s)) (firstK s :: B) := by
  obtain ⟨ht0, hmin⟩ := firstK_mem hne
  have hall : ∀ t ∈ keysL s.fr, readB s.fr t = true ∧ s.cp t = none := fun t ht => by
    have := List.find?_eq_none.1 hno t ht
    unfold okF at this
    rw [Bool.or_eq_true, not_or, Bool.not_eq_true', Bool.not_eq_false] at this
    exact ⟨this.1, by simpa using this.2⟩
  generalize hT : firstK s = t0 at *
  -- the pending ones are moved among themselves
  have hval : ∀ t ∈ keysL s.fr, s.fr t = some ((s.fr t).getD 0) := fun t ht => by
    obtain ⟨x, hx⟩ := Option.isSome_iff_exists.1 (keysL_mem.1 ht).2
    rw [hx]; rfl
  have hperm : (keysL s.fr).Perm ((keysL s.fr).map fun t => (s.fr t).getD 0) := perm_of_sub _ _ (keysL_nodup _) (fun t ht => by
    obtain ⟨o, ho, _, he⟩ := readB_iff.1 (hall t ht).1
    exact List.mem_map.2 ⟨o, ho, by rw [he]; rfl⟩) (by simp)
  have hinK : ∀ t x, s.fr t = some x → x ∈ keysL s.fr := fun t x hx => by
    have htk : t ∈ keysL s.fr := keysL_mem.2 ⟨(hF.ok t x (h.sub t x hx)).1, by rw [hx]; rfl⟩
    exact hperm.symm.subset (List.mem_map.2 ⟨t, htk, by rw [hx]; rfl⟩)
  have hinj : ∀ a b x, s.fr a = some x → s.fr b = some x → a = b := fun a b x ha hb => by
    have hak : a ∈ keysL s.fr := keysL_mem.2 ⟨(hF.ok a x (h.sub a x ha)).1, by rw [ha]; rfl⟩
    have hbk : b ∈ keysL s.fr := keysL_mem.2 ⟨(hF.ok b x (h.sub b x hb)).1, by rw [hb]; rfl⟩
    have hnd : ((keysL s.fr).map fun t => (s.fr t).getD 0).Nodup := hperm.nodup_iff.1 (keysL_nodup _)
    rw [List.nodup_iff_pairwise_ne, List.pairwise_map] at hnd
    apply Classical.byContradiction
    intro c
    have hp := List.pairwise_iff_getElem.1 hnd
    obtain ⟨i, hi, ei⟩ := List.mem_iff_getElem.1 hak
    obtain ⟨j, hj, ej⟩ := List.mem_iff_getElem.1 hbk
    rcases Nat.lt_trichotomy i j with d | d | d
    · have := hp i j hi hj d
      rw [ei, ej, ha, hb] at this
      exact this rfl
    · subst d; exact c (ei.symm.trans ej)
    · have := hp j i hj hi d
      rw [ei, ej, ha, hb] at this
      exact this rfl
  have hstay : ∀ j, ∃ x, itF F t0 j = some x ∧ x ∈ keysL s.fr := fun j => by
    induction j with
    | zero => exact ⟨t0, rfl, ht0⟩
    | succ j ih =>
      obtain ⟨x, h1, h2⟩ := ih
      have h3 := hval x h2
      refine ⟨_, ?_, hinK x _ h3⟩
      show (itF F t0 j).bind F = _
      rw [h1]
      exact h.sub x _ h3
  have hback : ∀ i d, itF F t0 i = itF F t0 (i + d) → itF F t0 0 = itF F t0 d := fun i => by
    induction i with
    | zero => intro d e; rwa [Nat.zero_add] at e
    | succ i ih =>
      intro d e
      refine ih d ?_
      obtain ⟨x, h1, h2⟩ := hstay i
      obtain ⟨y, h3, h4⟩ := hstay (i + d)
      have e1 : itF F t0 (i + 1) = F x := by show (itF F t0 i).bind F = _; rw [h1]; rfl
      have e2 : itF F t0 (i + 1 + d) = F y := by rw [show i + 1 + d = i + d + 1 by omega]; show (itF F t0 (i + d)).bind F = _; rw [h3]; rfl
      rw [e1, e2, h.sub x _ (hval x h2), h.sub y _ (hval y h4)] at e
      have e3 : (s.fr x).getD 0 = (s.fr y).getD 0 := by simpa using e
      have := hinj x y _ (hval x h2) (by rw [e3]; exact hval y h4)
      rw [h1, h3, this]
  have hret : ∃ k, 0 < k ∧ itF F t0 k = some t0 := by
    apply Classical.byContradiction
    intro c
    have hnd : ((List.range ((keysL s.fr).length + 1)).map fun j => (itF F t0 j).getD 0).Nodup := by
      rw [List.nodup_iff_pairwise_ne, List.pairwise_map]
      refine List.Pairwise.imp ?_ (List.pairwise_lt_range (n := (keysL s.fr).length + 1))
      intro a b hab e
      apply c
      obtain ⟨x, h1, _⟩ := hstay a
      obtain ⟨y, h2, _⟩ := hstay b
      rw [h1, h2] at e
      have e' : x = y := e
      refine ⟨b - a, by omega, ?_⟩
      rw [← hback a (b - a) (by rw [show a + (b - a) = b by omega, h1, h2, e'])]
      rfl
    have := sub_len _ (keysL s.fr) hnd fun x hx => by
      obtain ⟨j, _, rfl⟩ := List.mem_map.1 hx
      obtain ⟨y, h1, h2⟩ := hstay j
      rw [h1]; exact h2
    rw [List.length_map, List.length_range] at this
    omega
  have hrd : ∀ x ∈ keysL s.fr, rdN F x = 1 := fun x hx => by
    obtain ⟨o, ho, _, he⟩ := readB_iff.1 (hall x hx).1
    unfold rdN
    have : ((keysL F).filter fun o => decide (F o = some x)).length = [o].length := nodup_len ((keysL_nodup _).filter _) (by simp) fun j => by
      rw [List.mem_filter, decide_eq_true_iff, List.mem_singleton]
      constructor
      · rintro ⟨_, hj⟩
        cases hs : s.fr j with
        | none =>
          exfalso
          have := (h.cp x).2 (.inl ⟨j, hj, hs⟩)
          rw [(hall x hx).2] at this
          cases this
        | some z =>
          have e := h.sub j z hs
          rw [hj] at e
          obtain rfl : x = z := by simpa using e
          exact hinj j o x hs he
      · rintro rfl
        exact ⟨hF.key (h.sub j x he), h.sub j x he⟩
    simpa using this
  have hL : LeastR F t0 := by
    obtain ⟨k, hk, hr⟩ := hret
    refine ⟨k, hk, hr, fun j _ => ?_⟩
    obtain ⟨x, h1, h2⟩ := hstay j
    exact ⟨x, h1, hrd x h2, hmin x h2⟩
  refine ⟨hL, ?_⟩
  obtain ⟨x0, hx0⟩ := Option.isSome_iff_exists.1 (keysL_mem.1 ht0).2
  have hFx0 := h.sub t0 x0 hx0
  have hn : nextV (breakS sp s) t0 = x0 := nextV_eq (s := breakS sp s) hx0
  have hB0 : t0 ∉ B := fun c => by rw [h.bdone t0 c] at hx0; cases hx0
  refine ⟨fun u y hu => h.sub u y (del_some hu).2, fun y => ?_, fun u hu => ?_, List.nodup_cons.2 ⟨hB0, h.nodup⟩, fun u hu => ?_, fun u hu => ?_, ?_⟩
  · show (Option.isSome ((if ((breakS sp s).cp (nextV (breakS sp s) t0)).isSome then (breakS sp s).cp else put (breakS sp s).cp (nextV (breakS sp s) t0) t0) y)) = true ↔ _
    rw [hn]
    by_cases hy : y = x0
    · subst hy
      constructor
      · intro _
        exact .inl ⟨t0, hFx0, del_at _ _⟩
      · intro _
        split
        · assumption
        · rw [put_at]; rfl
    · have e : (if ((breakS sp s).cp x0).isSome then (breakS sp s).cp else put (breakS sp s).cp x0 t0) y = put s.cp t0 sp y := by
        have hb : (breakS sp s).cp y = put s.cp t0 sp y := by unfold breakS; rw [hT]
        rw [← hb]
        split
        · rfl
        · rw [put_ne hy]
      rw [e]
      by_cases hy0 : y = t0
      · subst hy0
        rw [put_at]
        simp
      · rw [put_ne hy0, h.cp]
        constructor
        · rintro (⟨u, h1, h2⟩ | h1)
          · refine .inl ⟨u, h1, ?_⟩
            by_cases c : u = t0
            · subst c; exact del_at _ _
            · show del s.fr t0 u = none
              rw [del_ne c]; exact h2
          · exact .inr (List.mem_cons_of_mem _ h1)
        · rintro (⟨u, h1, h2⟩ | h1)
          · refine .inl ⟨u, h1, ?_⟩
            have c : u ≠ t0 := fun c => by
              subst c
              rw [hFx0] at h1
              exact hy (by simpa using h1.symm)
            have h2' : del s.fr t0 u = none := h2
            rwa [del_ne c] at h2'
          · rcases List.mem_cons.1 h1 with c | c
            · exact absurd c hy0
            · exact .inr c
  · show del s.fr t0 u = none
    by_cases c : u = t0
    · subst c; exact del_at _ _
    · rw [del_ne c]
      rcases List.mem_cons.1 hu with d | d
      · exact absurd d c
      · exact h.bdone u d
  · rcases List.mem_cons.1 hu with d | d
    · subst d; exact hL
    · exact h.ring u d
  · rintro ⟨j, y, h1, h2⟩
    have h2' : del s.fr t0 y = none := h2
    by_cases c : y = t0
    · subst c
      obtain ⟨_, hle, _, m, hm⟩ := hu.at h1
      obtain ⟨z, h3, h4⟩ := hstay m
      rw [hm] at h3
      obtain rfl : u = z := by simpa using h3
      have := hmin u h4
      have : u = y := by omega
      rw [this]; simp
    · rw [del_ne c] at h2'
      exact List.mem_cons_of_mem _ (h.all u hu ⟨j, y, h1, h2'⟩)
  · have h1 := keysL_del ht0
    have h2 := h.count
    show ((s.dn ++ [_]) ++ [_]).length + (keysL (del s.fr t0)).length = _
    rw [List.length_append, List.length_append]
    simp only [List.length_cons, List.length_nil]
    omega
theorem freeO_some {s : RSt} {t : Nat} (h : freeO s = some t) : t ∈ keysL s.fr ∧ okF s t = true := ⟨List.mem_of_find?_eq_some h, List.find?_some h⟩
theorem stepS_keys {sp : Nat} {s : RSt} (hne : keysL s.fr ≠ []) : (keysL (stepS sp s).fr).length + 1 = (keysL s.fr).length := by
  unfold stepS
  split
  · rename_i t h
    exact keysL_del (freeO_some h).1
  · exact keysL_del (firstK_mem hne).1
theorem inv_step {F : PF} (hF : FOk F) {s : RSt} {B : List Nat} (h : Inv F s B) (hne : keysL s.fr ≠ []) (sp : Nat) : ∃ B', Inv F (stepS sp s) B' := by
  unfold stepS
  split
  · rename_i t ht
    exact ⟨B, h.free hF (freeO_some ht).1 (freeO_some ht).2⟩
  · rename_i ht
    exact ⟨_, (inv_break hF h hne ht sp).2⟩
theorem iter_keys {sp : Nat} {s : RSt} : ∀ n, n ≤ (keysL s.fr).length → (keysL (iterS sp s n).fr).length + n = (keysL s.fr).length
  | 0, _ => rfl
  | n + 1, h => by
    have h1 := iter_keys n (by omega) (sp := sp) (s := s)
    have h2 := stepS_keys (sp := sp) (s := iterS sp s n) (fun c => by rw [c] at h1; simp at h1; omega)
    show (keysL (stepS sp (iterS sp s n)).fr).length + (n + 1) = _
    omega
theorem iter_inv {F : PF} (hF : FOk F) {s : RSt} {B : List Nat} (h : Inv F s B) (sp : Nat) : ∀ n, n ≤ (keysL s.fr).length → ∃ B', Inv F (iterS sp s n) B'
  | 0, _ => ⟨B, h⟩
  | n + 1, hn => by
    obtain ⟨B', h'⟩ := iter_inv hF h sp n (by omega)
    have h1 := iter_keys (sp := sp) (s := s) n (by omega)
    exact inv_step hF h' (fun c => by rw [c] at h1; simp at h1; omega) sp
theorem row_len {l : List (Nat × Nat)} (h : MOk l) (sp : Nat) : ∃ B : List Nat, B.Nodup ∧ (∀ t, t ∈ B ↔ LeastR (fromF l) t) ∧ (rowL l sp).length = (keysL (fromF l)).length + B.length := by
  obtain ⟨B, hB⟩ := iter_inv (fromF_ok h) (Inv.start (l := l)) sp _ (Nat.le_refl (keysL (startS l).fr).length)
  have h1 := iter_keys (sp := sp) (s := startS l) _ (Nat.le_refl (keysL (startS l).fr).length)
  have h0 : keysL (iterS sp (startS l) (keysL (startS l).fr).length).fr = [] := List.length_eq_zero_iff.1 (by omega)
  refine ⟨B, hB.nodup, fun t => ⟨hB.ring t, fun ht => hB.all t ht ⟨0, t, rfl, ?_⟩⟩, ?_⟩
  · cases hf : (iterS sp (startS l) (keysL (startS l).fr).length).fr t with
    | none => rfl
    | some x =>
      have hm := keysL_mem (f := (iterS sp (startS l) (keysL (startS l).fr).length).fr) (k := t)
      rw [h0] at hm
      have := hm.2 ⟨((fromF_ok h).ok t x (hB.sub t x hf)).1, by rw [hf]; rfl⟩
      cases this
  · have := hB.count
    rw [h0] at this
    exact this
end Go.Proofs.Ytjfpaelmcepidaa
