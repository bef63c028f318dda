/- The walk of Shift of the program. -/
import Derived.Test.YtmhneonebjcieaaMW
import Derived.Test.YtmhneonebjcieaaWC
namespace Go.Proofs.Ytmhneonebjcieaa
open Go.RowKit

def shiftP (d : Int) (p : Pl) : Pl := ⟨p.fr + d, p.to + d, p.va, p.ki, p.nn⟩
def fitsB (d : Int) (p : Pl) : Bool := within d (-p.fr) (32768 - p.to)
/-- What Shift tells. -/
def shiftE (l : List Pl) (d : Int) : Int := if valE l ≠ 0 then valE l else if anyTo l.length (fun k => !fitsB d (at' l k)) then 1 else 0
def ShPost (l : List Pl) (d : Int) (B : Nat) (v : Value) (w' : World) : Prop :=
  if shiftE l d = 0 then w'.ownsRow B 38 5 v l.length (encPl (l.map (shiftP d))) else v = .slice none 0 0
def mixS (l : List Pl) (d : Int) (k : Nat) : List Pl := (l.take k).map (shiftP d) ++ l.drop k
theorem mixS_zero (l : List Pl) (d : Int) : mixS l d 0 = l := by simp [mixS]
theorem mixS_full (l : List Pl) (d : Int) : mixS l d l.length = l.map (shiftP d) := by simp [mixS]
theorem mixS_len (l : List Pl) (d : Int) (k : Nat) : (mixS l d k).length = l.length := by simp [mixS]; omega
theorem mixS_at {l : List Pl} {d : Int} {k : Nat} (h : k < l.length) : at' (mixS l d k) k = at' l k := by
  unfold mixS at'
  rw [List.getD_eq_getElem?_getD, List.getD_eq_getElem?_getD, List.getElem?_append_right (by simp; omega)]
  simp [Nat.min_eq_left (Nat.le_of_lt h)]
theorem mixS_next {l : List Pl} {d : Int} {k : Nat} (h : k < l.length) : mixS l d (k + 1) = (mixS l d k).set k (shiftP d (at' l k)) := by
  unfold mixS
  rw [take_next h, List.map_append, List.set_append_right _ _ (by simp; omega)]
  have hd : l.drop k = at' l k :: l.drop (k + 1) := by
    rw [List.drop_eq_getElem_cons h]
    unfold at'
    rw [List.getD_eq_getElem?_getD, List.getElem?_eq_getElem h]; rfl
  rw [hd]
  simp [Nat.min_eq_left (Nat.le_of_lt h)]
theorem encPl_set2 : ∀ (l : List Pl) (k : Nat) (d : Int), k < l.length → encPl (l.set k (shiftP d (at' l k))) = ((encPl l).set (k * 5) (.int .i64 ((at' l k).fr + d))).set (k * 5 + 1) (.int .i64 ((at' l k).to + d))
  | p :: l, 0, t, _ => rfl
  | p :: l, k + 1, t, h => by
    have ih := encPl_set2 l k t (by simpa using h)
    show (_ :: _ :: _ :: _ :: _ :: encPl (l.set k (shiftP t (at' l k)))) = ((_ :: _ :: _ :: _ :: _ :: encPl l).set ((k + 1) * 5) _).set ((k + 1) * 5 + 1) _
    rw [show (k + 1) * 5 + 1 = k * 5 + 1 + 1 + 1 + 1 + 1 + 1 by omega, show (k + 1) * 5 = k * 5 + 1 + 1 + 1 + 1 + 1 by omega]
    simp only [List.set_cons_succ]
    rw [ih]
    rfl
theorem owns_set {w : World} {B g n c s : Nat} {e : TypeId} {xs : List Value} (h : w.ownsRow B e s (.slice (some ⟨g, 0, none⟩) n c) n xs) (j : Nat) (x : Value) : (w.setCell ⟨g, j, none⟩ x).ownsRow B e s (.slice (some ⟨g, 0, none⟩) n c) n (xs.set j x) := by
  obtain ⟨hl, ⟨e0, _⟩ | ⟨g', cap, cur, e0, hb, hg, hnc, hm, hcs, ht⟩⟩ := h
  · cases e0
  · simp only [Value.slice.injEq, Option.some.injEq, Addr.mk.injEq, and_true, true_and] at e0
    obtain ⟨rfl, rfl⟩ := e0
    exact ⟨by simpa using hl, .inr ⟨g, c, cur.setIfInBounds j x, rfl, hb, heap_setCell_same w g _ _ _ _ hg, hnc, hm, by simpa using hcs, by rw [Array.toList_setIfInBounds, List.take_set, ht]⟩⟩
/-- An address that is a block's cell. -/
def FlatA (a : Option Addr) : Prop := ∀ x, a = some x → x = ⟨x.block, x.off, none⟩
theorem pls_cells {w : World} {b off : Nat} {l : List Pl} (h : PlsIn w (some ⟨b, off, none⟩) l) : ∀ j u, (encPl l)[j]? = some u → w.cell? ⟨b, off + j, none⟩ = some u := by
  intro j u hj
  have hjl : j < l.length * 5 := by
    rw [← encPl_len]
    exact (List.getElem?_eq_some_iff.1 hj).1
  obtain ⟨b', o', e, hp⟩ := h (j / 5) (by omega)
  simp only [Option.some.injEq, Addr.mk.injEq, and_true] at e
  obtain ⟨rfl, rfl⟩ := e
  obtain ⟨e0, e1, e2, e3, e4⟩ := encPl_get l (j / 5) (by omega)
  obtain ⟨c0, c1, c2, c3, c4⟩ := hp
  have hr : j % 5 = 0 ∨ j % 5 = 1 ∨ j % 5 = 2 ∨ j % 5 = 3 ∨ j % 5 = 4 := by omega
  rcases hr with h | h | h | h | h
  · rw [show j = j / 5 * 5 by omega, e0] at hj
    rw [show off + j = off + j / 5 * 5 by omega, c0, ← hj]
  · rw [show j = j / 5 * 5 + 1 by omega, e1] at hj
    rw [show off + j = off + j / 5 * 5 + 1 by omega, c1, ← hj]
  · rw [show j = j / 5 * 5 + 2 by omega, e2] at hj
    rw [show off + j = off + j / 5 * 5 + 2 by omega, c2, ← hj]
  · rw [show j = j / 5 * 5 + 3 by omega, e3] at hj
    rw [show off + j = off + j / 5 * 5 + 3 by omega, c3, ← hj]
  · rw [show j = j / 5 * 5 + 4 by omega, e4] at hj
    rw [show off + j = off + j / 5 * 5 + 4 by omega, c4, ← hj]
theorem encPl_one (l : List Pl) : ∀ u ∈ encPl l, u.oneCell' = true := by
  intro u hu
  obtain ⟨p, _, hu⟩ := List.mem_flatMap.1 hu
  simp only [List.mem_cons, List.not_mem_nil, or_false] at hu
  rcases hu with rfl | rfl | rfl | rfl | rfl <;> rfl
theorem clone_any (l : List Pl) (a : Option Addr) (cap : Nat) (w : World) (hin : PlsIn w a l) (hf : FlatA a) (hl : l.length ≤ 1000) :
    Calls Try.prog 41 #[.slice a l.length cap] w fun e w' => ∃ v, e = .returned v ∧ w'.ownsRow w.heap.size 38 5 v l.length (encPl l) ∧ Below w.heap.size w w' := by
  cases a with
  | none =>
    have h0 : l = [] := by
      cases l with
      | nil => rfl
      | cons p l =>
        obtain ⟨_, _, e, _⟩ := hin 0 (by simp)
        cases e
    subst h0
    refine (Try.slices_Clone_nil 0 cap w).mono ?_
    rintro e w' ⟨rfl, rfl⟩
    exact ⟨_, rfl, ⟨rfl, .inl ⟨rfl, rfl⟩⟩, Below.refl _ _⟩
  | some x =>
    obtain ⟨b, off, sp⟩ := x
    have := hf _ rfl
    simp only [Addr.mk.injEq, true_and] at this
    subst this
    obtain ⟨i0, hi, ip0, ip1, ip2⟩ := info_parts Try.infoPlace
    refine (Try.slices_Clone i0 _ 5 40 hi ip0 ip1 ip2 rfl (by decide) Try.sizeOf38 b off l.length cap (encPl l) w (encPl_len l) (by unfold maxLen; omega) (by omega) (pls_cells hin) (encPl_one l)).mono ?_
    rintro e w' ⟨v', rfl, ho, _, hb⟩
    exact ⟨v', rfl, ho, hb⟩
end Go.Proofs.Ytmhneonebjcieaa
