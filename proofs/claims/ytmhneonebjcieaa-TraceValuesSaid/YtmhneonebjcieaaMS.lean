/- A place of an own row whose end is written. -/
import Derived.Test.YtmhneonebjcieaaMM
import Derived.Test.YtmhneonebjcieaaWA
namespace Go.Proofs.Ytmhneonebjcieaa
open Go.RowKit

theorem encPl_set : ∀ (l : List Pl) (k : Nat) (t : Int), k < l.length → encPl (setTo l k t) = (encPl l).set (k * 5 + 1) (.int .i64 t)
  | p :: l, 0, t, _ => rfl
  | p :: l, k + 1, t, h => by
    have ih := encPl_set l k t (by simpa using h)
    show encPl (p :: setTo l k t) = _
    show (_ :: _ :: _ :: _ :: _ :: encPl (setTo l k t)) = (_ :: _ :: _ :: _ :: _ :: encPl l).set ((k + 1) * 5 + 1) _
    rw [show (k + 1) * 5 + 1 = k * 5 + 1 + 1 + 1 + 1 + 1 + 1 by omega]
    simp only [List.set_cons_succ]
    rw [← ih]
theorem owns_row5 {w : World} {B : Nat} {e : TypeId} {v : Value} {l : List Pl} (h : w.ownsRow B e 5 v l.length (encPl l)) {k : Nat} (hk : k < l.length) : ∃ g cap, v = .slice (some ⟨g, 0, none⟩) l.length cap ∧ l.length ≤ cap ∧ B ≤ g ∧ g < w.heap.size ∧ PlAt w g (k * 5) (at' l k) ∧ (∀ j, w.frozen? ⟨g, j, none⟩ = false) ∧
    ∀ t, (w.setCell ⟨g, k * 5 + 1, none⟩ (.int .i64 t)).ownsRow B e 5 v l.length (encPl (setTo l k t)) := by
  obtain ⟨hl, ⟨_, h0⟩ | ⟨g, cap, cur, rfl, hb, hg, hnc, hm, hcs, ht⟩⟩ := h
  · omega
  · obtain ⟨e0, e1, e2, e3, e4⟩ := encPl_get l k hk
    rw [← ht, List.getElem?_take, if_pos (by omega)] at e0 e1 e2 e3 e4
    refine ⟨g, cap, rfl, hnc, hb, lt_of_block hg, ⟨by rw [cell_of_row w g _ _ _ _ hg]; simpa using e0, by rw [cell_of_row w g _ _ _ _ hg]; simpa using e1, by rw [cell_of_row w g _ _ _ _ hg]; simpa using e2, by rw [cell_of_row w g _ _ _ _ hg]; simpa using e3, by rw [cell_of_row w g _ _ _ _ hg]; simpa using e4⟩, fun j => frozen_of_row w g j _ _ hg, fun t => ⟨by rw [encPl_len, setTo_len], .inr ⟨g, cap, cur.setIfInBounds (k * 5 + 1) (.int .i64 t), rfl, hb, heap_setCell_same w g _ _ _ _ hg, hnc, hm, by simpa using hcs, ?_⟩⟩⟩
    rw [encPl_set l k t hk, ← ht, Array.toList_setIfInBounds, List.take_set]
end Go.Proofs.Ytmhneonebjcieaa
