/- The visit that leaves nodes in order: as a function. -/
import Derived.Test.YtmljmmnofhhheaaM
namespace Go.Proofs.Ytmljmmnofhhheaa

/-- Seen nodes, and those left in the order in which they are left. -/
abbrev VSt := NSet × List Nat
def ovis (g : Gr) : Nat → Nat → VSt → VSt
  | 0, _, s => s
  | f + 1, v, s =>
    let t := (succ g v).foldl (fun s x => if s.1 x then s else ovis g f x s) (mark s.1 v, s.2)
    (t.1, t.2 ++ [v])
def ostep (g : Gr) (f : Nat) (s : VSt) (x : Nat) : VSt := if s.1 x then s else ovis g f x s
def olist (g : Gr) (f v k : Nat) (s : VSt) : VSt := ((succ g v).take k).foldl (ostep g f) (mark s.1 v, s.2)
theorem ovis_succ (g : Gr) (f v : Nat) (s : VSt) : ovis g (f + 1) v s = ((olist g f v (succ g v).length s).1, (olist g f v (succ g v).length s).2 ++ [v]) := by
  unfold olist
  rw [List.take_length]
  rfl
theorem olist_zero (g : Gr) (f v : Nat) (s : VSt) : olist g f v 0 s = (mark s.1 v, s.2) := rfl
theorem olist_next {g : Gr} {f v k : Nat} {s : VSt} (h : k < (succ g v).length) : olist g f v (k + 1) s = ostep g f (olist g f v k s) ((succ g v).getD k 0) := by
  unfold olist
  rw [List.take_succ_eq_append_getElem h, List.foldl_append]
  simp [List.getD_eq_getElem?_getD, List.getElem?_eq_getElem h]
/-- No more nodes are left than were not seen. -/
structure Less (s t : VSt) : Prop where
  sub : ∀ j, s.1 j = true → t.1 j = true
  len : t.2.length + cnt t.1 ≤ s.2.length + cnt s.1
theorem Less.refl (s : VSt) : Less s s := ⟨fun _ h => h, Nat.le_refl _⟩
theorem Less.trans {s t u : VSt} (h : Less s t) (k : Less t u) : Less s u := ⟨fun j hj => k.sub j (h.sub j hj), Nat.le_trans k.len h.len⟩
theorem less_ovis {g : Gr} (ok : OkG g) (f : Nat) : ∀ (v : Nat) (s : VSt), v < g.length → s.1 v = false → Less s (ovis g f v s) ∧ ∀ k, k ≤ (succ g v).length → Less (mark s.1 v, s.2) (olist g f v k s) := by
  induction f with
  | zero =>
    intro v s hv hs
    refine ⟨Less.refl _, fun k => ?_⟩
    induction k with
    | zero => intro _; exact Less.refl _
    | succ k ih =>
      intro hk
      rw [olist_next (by omega)]
      refine (ih (by omega)).trans ?_
      unfold ostep
      split
      · exact Less.refl _
      · exact Less.refl _
  | succ f ih =>
    intro v s hv hs
    have hL : ∀ F, (∀ (x : Nat) (s : VSt), x < g.length → s.1 x = false → Less s (ovis g F x s)) → ∀ k, k ≤ (succ g v).length → Less (mark s.1 v, s.2) (olist g F v k s) := by
      intro F hF k
      induction k with
      | zero => intro _; exact Less.refl _
      | succ k ihk =>
        intro hk
        rw [olist_next (by omega)]
        refine (ihk (by omega)).trans ?_
        unfold ostep
        split
        · exact Less.refl _
        · rename_i hx
          exact hF _ _ (ok.fits _ _ (getD_mem (by omega))) (by simpa using hx)
    have h1 : ∀ (x : Nat) (s : VSt), x < g.length → s.1 x = false → Less s (ovis g (f + 1) x s) := by
      intro x s hx hs
      have h2 := (ih x s hx hs).2 _ (Nat.le_refl _)
      have h3 := cnt_mark (by have := ok.ten; omega) hs
      rw [ovis_succ]
      refine ⟨fun j hj => h2.sub j (mark_of hj), ?_⟩
      have h4 : (olist g f x (succ g x).length s).2.length + cnt (olist g f x (succ g x).length s).1 ≤ s.2.length + cnt (mark s.1 x) := h2.len
      show ((olist g f x (succ g x).length s).2 ++ [x]).length + cnt (olist g f x (succ g x).length s).1 ≤ _
      rw [List.length_append]
      show _ + 1 + _ ≤ _
      omega
    exact ⟨h1 v s hv hs, hL (f + 1) h1⟩
/-- The nodes in the opposite order in which they are left. -/
def leftL (g : Gr) : List Nat := (ovis g 10 0 (fun _ => false, [])).2
def orderL (g : Gr) : List Nat := (leftL g).reverse
theorem leftL_len {g : Gr} (ok : OkG g) : (leftL g).length ≤ 10 := by
  have h := ((less_ovis ok 10 0 (fun _ => false, []) ok.pos rfl).1).len
  have h1 := cnt_ten (fun _ => false)
  unfold leftL
  have h2 : (([] : List Nat)).length = 0 := rfl
  simp only [h2] at h
  omega
end Go.Proofs.Ytmljmmnofhhheaa
