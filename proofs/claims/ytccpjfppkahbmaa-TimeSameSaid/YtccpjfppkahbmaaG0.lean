/- Sums of latencies along readers, plainly. -/
import Derived.Test.YtccpjfppkahbmaaF3
namespace Go.Proofs.Ytccpjfppkahbmaa
open Go.RowKit PK

def sumF (l : List Cd) (ts : List Int) (i : Nat) (r : Int) : Option Int := (lastW l r i).map fun j => ts.getD j 0
def sumT (l : List Cd) (ts : List Int) (i : Nat) : Int := foldT (sumF l ts i) (usesL (atC l i)) 0
def sumAt (l : List Cd) (ts : List Int) (i : Nat) : Int := sumT l ts i + lat (atC l i).op
/-- The sums of the first instructions. -/
def sumN (l : List Cd) : Nat → List Int
  | 0 => []
  | i + 1 => sumN l i ++ [sumAt l (sumN l i) i]
theorem sumN_len (l : List Cd) : ∀ i, (sumN l i).length = i
  | 0 => rfl
  | i + 1 => by simp [sumN, sumN_len l i]
theorem sumN_old {l : List Cd} {i j : Nat} (h : j < i) : (sumN l (i + 1)).getD j 0 = (sumN l i).getD j 0 := by
  show (sumN l i ++ [_]).getD j 0 = _
  rw [List.getD_eq_getElem?_getD, List.getD_eq_getElem?_getD, List.getElem?_append_left (by rw [sumN_len]; exact h)]
theorem sumN_new (l : List Cd) (i : Nat) : (sumN l (i + 1)).getD i 0 = sumAt l (sumN l i) i := by
  show (sumN l i ++ [_]).getD i 0 = _
  rw [List.getD_eq_getElem?_getD, List.getElem?_append_right (by rw [sumN_len]; exact Nat.le_refl _), sumN_len]
  simp
theorem sumN_past {l : List Cd} {i j : Nat} (h : i ≤ j) : (sumN l i).getD j 0 = 0 := by
  rw [List.getD_eq_getElem?_getD, List.getElem?_eq_none (by rw [sumN_len]; exact h)]; rfl
/-- The greatest of the first sums. -/
def bndN (l : List Cd) : Nat → Int
  | 0 => 0
  | i + 1 => max (bndN l i) (sumAt l (sumN l i) i)
theorem sumT_small {l : List Cd} {i : Nat} (h : ∀ j, j < i → 0 ≤ (sumN l i).getD j 0 ∧ (sumN l i).getD j 0 ≤ 12 * ((j : Int) + 1)) : (∀ r, 0 ≤ (sumF l (sumN l i) i r).getD 0 ∧ (sumF l (sumN l i) i r).getD 0 ≤ 12 * (i : Int)) := fun r => by
  unfold sumF
  cases hl : lastW l r i with
  | none => simp; omega
  | some k =>
    have hk := lastW_lt hl
    have := h k hk
    simp only [Option.map_some, Option.getD_some]
    omega
theorem sumN_small (l : List Cd) : ∀ i j, j < i → 0 ≤ (sumN l i).getD j 0 ∧ (sumN l i).getD j 0 ≤ 12 * ((j : Int) + 1)
  | 0, _, h => by omega
  | i + 1, j, h => by
    by_cases c : j = i
    · subst c
      rw [sumN_new]
      have hs := sumT_small (sumN_small l j)
      have h1 := foldT_small (fun r => (hs r).2) (rs := usesL (atC l j)) (t := 0) (Int.le_refl 0) (by omega)
      have h2 := lat_small (atC l j).op
      unfold sumAt sumT
      omega
    · rw [sumN_old (by omega)]
      exact sumN_small l i j (by omega)
theorem sumF_small (l : List Cd) (i : Nat) (r : Int) : 0 ≤ (sumF l (sumN l i) i r).getD 0 ∧ (sumF l (sumN l i) i r).getD 0 ≤ 12 * (i : Int) := sumT_small (sumN_small l i) r
theorem bndN_small (l : List Cd) : ∀ i, 0 ≤ bndN l i ∧ bndN l i ≤ 12 * (i : Int)
  | 0 => by simp [bndN]
  | i + 1 => by
    have h1 := bndN_small l i
    have h2 := sumN_small l (i + 1) i (Nat.lt_succ_self _)
    rw [sumN_new] at h2
    simp only [bndN]
    omega
def bndV (l : List Cd) : Int := if tErr l = 0 then bndN l l.length else 0
def BoundPost (l : List Cd) (w : World) (e : Ending) (w' : World) : Prop := e = .returned (.tuple #[.int .i64 (bndV l), .int .i64 (tErr l)]) ∧ Below w.heap.size w w'
theorem bound_bad (l : List Cd) (w w' : World) (v : Int) (hv : v = tErr l) (h : tErr l ≠ 0) (hb : Below w.heap.size w w') : BoundPost l w (.returned (.tuple #[.int .i64 0, .int .i64 v])) w' := by
  subst hv
  exact ⟨by rw [show bndV l = 0 from if_neg h], hb⟩
theorem bound_good (l : List Cd) (w w' : World) (v : Int) (h : tErr l = 0) (hv : v = bndN l l.length) (hb : Below w.heap.size w w') : BoundPost l w (.returned (.tuple #[.int .i64 v, .int .i64 0])) w' := by
  subst hv
  exact ⟨by rw [show bndV l = bndN l l.length from if_pos h, h], hb⟩
theorem ints_snoc {w : World} {base : Nat} {e : TypeId} {v : Value} {xs : List Int} {x : Int} (h : w.ownsRow base e 1 v (xs.length + 1) (PK.encI xs ++ [.int .i64 x])) : ∃ a cap, v = .slice a (xs.length + 1) cap ∧ IntsIn w a (xs ++ [x]) := by
  have e0 : (xs ++ [x]).length = xs.length + 1 := by simp
  rw [← encI_snoc, ← e0] at h
  obtain ⟨a, cap, rfl, _, hin⟩ := ints_of_owns h
  exact ⟨a, cap, by rw [e0], hin⟩
theorem ints_last {w : World} {a : Option Addr} {xs : List Int} {x : Int} (h : IntsIn w a (xs ++ [x])) : ∃ b off, a = some ⟨b, off, none⟩ ∧ w.cell? ⟨b, off + xs.length, none⟩ = some (.int .i64 x) := by
  obtain ⟨b, off, rfl, hc⟩ := h xs.length (by simp)
  refine ⟨b, off, rfl, ?_⟩
  rw [hc, List.getD_eq_getElem?_getD, List.getElem?_append_right (Nat.le_refl _)]
  simp
end Go.Proofs.Ytccpjfppkahbmaa
