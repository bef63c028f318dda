/- slices.SortFunc(out, compare) at an own row of places: the row holds them sorted. -/
import Derived.Test.YtmhneonebjcieaaS
import Derived.Test.YtmhneonebjcieaaWA
namespace Go.Proofs.Ytmhneonebjcieaa
open Go.RowKit Go.Sort Go.Shelf

instance : Inhabited Pl := ⟨noPl⟩
def enc5 (p : Pl) : List Value := [.int .i64 p.fr, .int .i64 p.to, .int .i64 p.va, .int .i64 p.ki, .int .i64 p.nn]
/-- The places in ascending order. -/
def sortP (l : List Pl) : List Pl := l.mergeSort fun x y => !(ltOf cmpP) y x
theorem ltOf_ltP (x y : Pl) : ltOf cmpP x y = ltP x y := rfl
theorem swoP : SWO (ltOf cmpP) where
  irrefl x := ltP_irrefl x
  trans x y z h1 h2 := ltP_trans (p := x) (q := y) (r := z) h1 h2
  ntrans x y z h1 h2 := by
    rw [ltOf_ltP] at *
    cases h : ltP x z
    · rfl
    · have n1 : ¬ _ := fun e => Bool.false_ne_true (h1.symm.trans (ltP_iff.2 e))
      have n2 : ¬ _ := fun e => Bool.false_ne_true (h2.symm.trans (ltP_iff.2 e))
      rw [ltP_iff] at h
      omega
theorem getB (l : List Pl) (q : Nat) : l.toArray[q]! = at' l q := by
  unfold at'
  rw [List.getD_eq_getElem?_getD]
  by_cases h : q < l.length
  · simp [h]
  · simp [h]; rfl
theorem flat_get (l : List Pl) (i : Nat) (h : i < l.length * 5) : (encPl l)[i]? = some ((flatK enc5 5 l.toArray)[i]!) := by
  rw [get_flatK enc5 5 l.toArray i (by simpa using h), getB]
  obtain ⟨e0, e1, e2, e3, e4⟩ := encPl_get l (i / 5) (by omega)
  have hr : i % 5 = 0 ∨ i % 5 = 1 ∨ i % 5 = 2 ∨ i % 5 = 3 ∨ i % 5 = 4 := by omega
  rcases hr with h | h | h | h | h
  · rw [h, show i = i / 5 * 5 by omega, e0, show i / 5 * 5 / 5 = i / 5 by omega]; rfl
  · rw [h, show i = i / 5 * 5 + 1 by omega, e1, show (i / 5 * 5 + 1) / 5 = i / 5 by omega]; rfl
  · rw [h, show i = i / 5 * 5 + 2 by omega, e2, show (i / 5 * 5 + 2) / 5 = i / 5 by omega]; rfl
  · rw [h, show i = i / 5 * 5 + 3 by omega, e3, show (i / 5 * 5 + 3) / 5 = i / 5 by omega]; rfl
  · rw [h, show i = i / 5 * 5 + 4 by omega, e4, show (i / 5 * 5 + 4) / 5 = i / 5 by omega]; rfl
theorem sortP_len (l : List Pl) : (sortP l).length = l.length := List.length_mergeSort _
end Go.Proofs.Ytmhneonebjcieaa
