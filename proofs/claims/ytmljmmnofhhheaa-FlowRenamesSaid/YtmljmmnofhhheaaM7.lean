/- Plain facts on the order of the visit: every reached node once, and behind all that it leads to but by ways round. -/
import Derived.Test.YtmljmmnofhhheaaM4
namespace Go.Proofs.Ytmljmmnofhhheaa

/-- Each node of the list leads to nodes ahead of it, or to such as lead back to it. -/
def Topo (g : Gr) (l : List Nat) : Prop := ∀ a u b, l = a ++ u :: b → ∀ x ∈ succ g u, x ∈ a ∨ ReachB g (-1) x u
theorem Topo.nil (g : Gr) : Topo g [] := fun a u b h => by simp at h
theorem Topo.snoc {g : Gr} {l : List Nat} {v : Nat} (h : Topo g l) (hv : ∀ x ∈ succ g v, x ∈ l ∨ ReachB g (-1) x v) : Topo g (l ++ [v]) := by
  intro a u b e x hx
  rcases List.eq_nil_or_concat b with rfl | ⟨b', z, rfl⟩
  · obtain ⟨rfl, h2⟩ := List.append_inj' e rfl
    obtain rfl : v = u := by simpa using h2
    exact hv x hx
  · have e' : l ++ [v] = (a ++ u :: b') ++ [z] := by rw [e]; simp
    obtain ⟨rfl, _⟩ := List.append_inj' e' rfl
    exact h a u b' rfl x hx
/-- What holds of the states of a visit. -/
structure VOk (g : Gr) (s : VSt) : Prop where
  topo : Topo g s.2
  nodup : s.2.Nodup
  seen : ∀ j ∈ s.2, s.1 j = true
  closed : ∀ u ∈ s.2, ∀ x ∈ succ g u, s.1 x = true
/-- What a visit of v makes of a state. -/
structure VTo (g : Gr) (v : Nat) (s t : VSt) : Prop where
  ok : VOk g t
  sub : ∀ j, s.1 j = true → t.1 j = true
  keeps : ∀ j ∈ s.2, j ∈ t.2
  lists : ∀ j, t.1 j = true → s.1 j = true ∨ j ∈ t.2
  fresh : ∀ j ∈ t.2, j ∈ s.2 ∨ s.1 j = false
  ways : ∀ j ∈ t.2, j ∈ s.2 ∨ ReachB g (-1) v j
def Gray (g : Gr) (s : VSt) (v : Nat) : Prop := ∀ j, s.1 j = true → j ∈ s.2 ∨ ReachB g (-1) j v
theorem not_but (x : Nat) : (x : Int) ≠ -1 := by omega
theorem vto_refl {g : Gr} {v : Nat} {s : VSt} (h : VOk g s) : VTo g v s s := ⟨h, fun _ h => h, fun _ h => h, fun _ h => .inl h, fun _ h => .inl h, fun _ h => .inl h⟩
theorem vok_mark {g : Gr} {s : VSt} (h : VOk g s) (v : Nat) : VOk g (mark s.1 v, s.2) := ⟨h.topo, h.nodup, fun j hj => mark_of (h.seen j hj), fun u hu x hx => mark_of (h.closed u hu x hx)⟩
theorem vto_next {g : Gr} {v x : Nat} {s m t : VSt} (h : VTo g v s m) (hx : x ∈ succ g v) (k : VTo g x m t) : VTo g v s t := by
  refine ⟨k.ok, fun j hj => k.sub j (h.sub j hj), fun j hj => k.keeps j (h.keeps j hj), fun j hj => ?_, fun j hj => ?_, fun j hj => ?_⟩
  · rcases k.lists j hj with c | c
    · rcases h.lists j c with d | d
      · exact .inl d
      · exact .inr (k.keeps j d)
    · exact .inr c
  · rcases k.fresh j hj with c | c
    · exact h.fresh j c
    · by_cases d : s.1 j = true
      · rw [h.sub j d] at c; cases c
      · exact .inr (by simpa using d)
  · rcases k.ways j hj with c | c
    · exact h.ways j c
    · exact .inr (ReachB.head (not_but v) hx c)
theorem ovis_to {g : Gr} (ok : OkG g) (f : Nat) : ∀ (v : Nat) (s : VSt), v < g.length → s.1 v = false → cnt s.1 ≤ f → VOk g s → Gray g s v →
    VTo g v s (ovis g f v s) ∧ ∃ l, (ovis g f v s).2 = l ++ [v] := by
  induction f with
  | zero =>
    intro v s hv hs hc
    have := cnt_pos (by have := ok.ten; omega) hs
    omega
  | succ f ih =>
    intro v s hv hs hc ho hg
    have hm := cnt_mark (by have := ok.ten; omega) hs
    have hst : ∀ (m : VSt) (x : Nat), VTo g v (mark s.1 v, s.2) m → x ∈ succ g v → VTo g x m (ostep g f m x) ∧ (ostep g f m x).1 x = true := by
      intro m x h hx
      unfold ostep
      split
      · rename_i hxs
        exact ⟨vto_refl h.ok, hxs⟩
      · rename_i hxs
        have hgray : Gray g m x := by
          intro j hj
          rcases h.lists j hj with c | c
          · rcases mark_cases c with c | rfl
            · rcases hg j c with d | d
              · exact .inl (h.keeps j d)
              · exact .inr (d.step hx (not_but x))
            · exact .inr ((ReachB.here (not_but j)).step hx (not_but x))
          · exact .inl c
        have hcm : cnt m.1 ≤ f := by
          have := cnt_le (S := mark s.1 v) (T := m.1) h.sub
          omega
        obtain ⟨k, l, hl⟩ := ih x m (ok.fits _ _ hx) (by simpa using hxs) hcm h.ok hgray
        exact ⟨k, k.ok.seen x (by rw [hl]; simp)⟩
    have hL : ∀ k, k ≤ (succ g v).length → VTo g v (mark s.1 v, s.2) (olist g f v k s) ∧ ∀ i, i < k → (olist g f v k s).1 ((succ g v).getD i 0) = true := by
      intro k
      induction k with
      | zero => intro _; exact ⟨vto_refl (vok_mark ho v), fun i hi => absurd hi (Nat.not_lt_zero _)⟩
      | succ k ihk =>
        intro hk
        obtain ⟨h, hd⟩ := ihk (by omega)
        rw [olist_next (by omega)]
        have hx : (succ g v).getD k 0 ∈ succ g v := getD_mem (by omega)
        obtain ⟨h1, h2⟩ := hst _ _ h hx
        refine ⟨vto_next h hx h1, fun i hi => ?_⟩
        rcases Nat.lt_or_ge i k with c | c
        · exact h1.sub _ (hd i c)
        · obtain rfl : i = k := by omega
          exact h2
    obtain ⟨h, hd⟩ := hL _ (Nat.le_refl _)
    rw [ovis_succ]
    have hds : ∀ x ∈ succ g v, (olist g f v (succ g v).length s).1 x = true := by
      intro x hx
      obtain ⟨i, hi, rfl⟩ := List.mem_iff_getElem.1 hx
      have := hd i hi
      rwa [List.getD_eq_getElem?_getD, List.getElem?_eq_getElem hi] at this
    generalize olist g f v (succ g v).length s = t at *
    have hvt : v ∉ t.2 := by
      intro c
      rcases h.fresh v c with d | d
      · rw [ho.seen v d] at hs; cases hs
      · have e : mark s.1 v v = false := d
        rw [mark_self] at e; cases e
    refine ⟨⟨⟨h.ok.topo.snoc fun x hx => ?_, ?_, fun j hj => ?_, fun u hu x hx => ?_⟩, fun j hj => h.sub j (mark_of hj), fun j hj => ?_, fun j hj => ?_, fun j hj => ?_, fun j hj => ?_⟩, t.2, rfl⟩
    · rcases h.lists x (hds x hx) with c | c
      · rcases mark_cases c with c | rfl
        · rcases hg x c with d | d
          · exact .inl (h.keeps x d)
          · exact .inr d
        · exact .inr (.here (not_but x))
      · exact .inl c
    · show (t.2 ++ [v]).Nodup
      rw [List.nodup_append]
      refine ⟨h.ok.nodup, by simp, fun a ha b hb => ?_⟩
      obtain rfl : b = v := by simpa using hb
      intro e; subst e; exact hvt ha
    · rcases List.mem_append.1 hj with c | c
      · exact h.ok.seen j c
      · obtain rfl : j = v := by simpa using c
        exact h.sub j (mark_self _ _)
    · rcases List.mem_append.1 hu with c | c
      · exact h.ok.closed u c x hx
      · obtain rfl : u = v := by simpa using c
        exact hds x hx
    · exact List.mem_append_left _ (h.keeps j hj)
    · rcases h.lists j hj with c | c
      · rcases mark_cases c with c | rfl
        · exact .inl c
        · exact .inr (by simp)
      · exact .inr (List.mem_append_left _ c)
    · rcases List.mem_append.1 hj with c | c
      · rcases h.fresh j c with d | d
        · exact .inl d
        · refine .inr ?_
          rw [← Bool.not_eq_true]
          intro e
          have e' : mark s.1 v j = false := d
          rw [mark_of e] at e'; cases e'
      · obtain rfl : j = v := by simpa using c
        exact .inr hs
    · rcases List.mem_append.1 hj with c | c
      · exact h.ways j c
      · obtain rfl : j = v := by simpa using c
        exact .inr (.here (not_but j))
theorem left_all {g : Gr} (ok : OkG g) : Topo g (leftL g) ∧ (leftL g).Nodup ∧ (∀ j, j ∈ leftL g ↔ rs g (-1) 0 j = true) ∧ ∃ l, leftL g = l ++ [0] := by
  obtain ⟨h, l, hl⟩ := ovis_to ok 10 0 (fun _ => false, []) ok.pos rfl (cnt_ten _) ⟨Topo.nil g, List.nodup_nil, by simp, by simp⟩ (by intro j hj; cases hj)
  refine ⟨h.ok.topo, h.ok.nodup, fun j => ?_, l, hl⟩
  rw [rs_iff]
  constructor
  · intro hj
    rcases h.ways j hj with c | c
    · cases c
    · exact c
  · intro hr
    refine hr.ind (· ∈ leftL g) (fun _ => ?_) (fun u x _ hu hx _ => ?_)
    · unfold leftL; rw [hl]; simp
    · rcases h.lists x (h.ok.closed u hu x hx) with c | c
      · cases c
      · exact c
theorem order_first {g : Gr} (ok : OkG g) : ∃ l, orderL g = 0 :: l := by
  obtain ⟨_, _, _, l, hl⟩ := left_all ok
  exact ⟨l.reverse, by unfold orderL; rw [hl]; simp⟩
theorem order_mem {g : Gr} (ok : OkG g) (j : Nat) : j ∈ orderL g ↔ rs g (-1) 0 j = true := by
  unfold orderL; rw [List.mem_reverse]; exact (left_all ok).2.2.1 j
theorem order_nodup {g : Gr} (ok : OkG g) : (orderL g).Nodup := by
  have := (left_all ok).2.1
  unfold List.Nodup at this ⊢
  unfold orderL
  rw [List.pairwise_reverse]
  exact this.imp fun h => h.symm
/-- No node of the order leads to one that is not behind it, unless there is a way round. -/
theorem order_behind {g : Gr} (ok : OkG g) {i k : Nat} (hik : i ≤ k) (hk : k < (orderL g).length) (h : (orderL g).getD i 0 ∈ succ g ((orderL g).getD k 0)) : ReachB g (-1) ((orderL g).getD i 0) ((orderL g).getD k 0) := by
  obtain ⟨ht, hn, _⟩ := left_all ok
  have hl : (orderL g).length = (leftL g).length := by unfold orderL; simp
  have hget : ∀ m, m < (leftL g).length → (orderL g).getD m 0 = (leftL g).getD ((leftL g).length - 1 - m) 0 := by
    intro m hm
    unfold orderL
    rw [List.getD_eq_getElem?_getD, List.getElem?_reverse hm, ← List.getD_eq_getElem?_getD]
  rw [hget i (by omega), hget k (by omega)] at *
  have hk' : (leftL g).length - 1 - k < (leftL g).length := by omega
  have hi' : (leftL g).length - 1 - i < (leftL g).length := by omega
  have hle : (leftL g).length - 1 - k ≤ (leftL g).length - 1 - i := by omega
  generalize (leftL g).length - 1 - k = p at *
  generalize (leftL g).length - 1 - i = q at *
  have hs : leftL g = (leftL g).take p ++ (leftL g).getD p 0 :: (leftL g).drop (p + 1) := by
    have e : (leftL g).getD p 0 = (leftL g)[p] := by rw [List.getD_eq_getElem?_getD, List.getElem?_eq_getElem hk']; rfl
    rw [e, List.getElem_cons_drop, List.take_append_drop]
  rcases ht _ _ _ hs _ h with c | c
  · exfalso
    obtain ⟨m, hm, hme⟩ := List.mem_iff_getElem.1 c
    rw [List.length_take] at hm
    rw [List.getElem_take, List.getD_eq_getElem?_getD, List.getElem?_eq_getElem hi'] at hme
    have := (List.getElem_inj hn).1 hme
    omega
  · exact c
theorem nodup_len {l r : List Nat} (hl : l.Nodup) (hr : r.Nodup) (h : ∀ j, j ∈ l ↔ j ∈ r) : l.length = r.length := by
  have := (List.perm_ext_iff_of_nodup hl hr).2 h
  exact this.length_eq
end Go.Proofs.Ytmljmmnofhhheaa
