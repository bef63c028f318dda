/- The closure of an edge. -/
import Derived.Test.YtgpacajlfclobaaQ6
namespace Go.Proofs.Ytgpacajlfclobaa
open Go.RowKit

theorem touch_any (x y v c n q pa po pc : Nat) (g : Regs) (w : World) (ha : w.cell? ⟨pa, 0, none⟩ = some (.int .i64 (v : Nat))) (ho : w.cell? ⟨po, 0, none⟩ = some (.slice (some ⟨q, 0, none⟩) n n)) (hc : w.cell? ⟨pc, 0, none⟩ = some (.int .i64 (c : Nat)))
    (hrow : NRow w q n g) (hx : x < n) (hy : y < n) (hxy : x ≠ y) :
    Calls Try.prog 38 #[.agg #[.int .i64 (x : Nat), .int .i64 (y : Nat)], .pointer (some ⟨pa, 0, none⟩), .pointer (some ⟨po, 0, none⟩), .pointer (some ⟨pc, 0, none⟩)] w fun e w' => e = .returned (.bool (touchF g v c (x, y))) ∧ Below w.heap.size w w' := by
  have d1 := hrow.cell hx
  have d2 := hrow.cell hy
  have ht : touchF g v c (x, y) = ((decide (x = v) && (decide (y < v) && decide (g y = c))) || (decide (y = v) && (decide (x < v) && decide (g x = c)))) := rfl
  rw [ht]
  clear ht hrow
  generalize g x = gx at *
  generalize g y = gy at *
  have bt : ∀ {b r : Bool}, b = r → (Calls Try.prog 38 #[.agg #[.int .i64 (x : Nat), .int .i64 (y : Nat)], .pointer (some ⟨pa, 0, none⟩), .pointer (some ⟨po, 0, none⟩), .pointer (some ⟨pc, 0, none⟩)] w fun e w' => e = .returned (.bool r) ∧ Below w.heap.size w w') → Calls Try.prog 38 #[.agg #[.int .i64 (x : Nat), .int .i64 (y : Nat)], .pointer (some ⟨pa, 0, none⟩), .pointer (some ⟨po, 0, none⟩), .pointer (some ⟨pc, 0, none⟩)] w fun e w' => e = .returned (.bool b) ∧ Below w.heap.size w w' := fun h k => by rw [h]; exact k
  by_cases hxv : x = v
  · subst hxv
    have hyv : ¬ y = x := fun h => hxy h.symm
    by_cases hyl : y < x
    · by_cases hgy : gy = c
      · subst hgy
        exact bt (by simp [hyl]) (touch_a x y gy gx n q pa po pc w ha ho hc d1 d2 ⟨by omega, by omega, by omega⟩)
      · exact bt (by simp [hgy, hyv]) (touch_b x y c gx gy n q pa po pc w ha ho hc d1 d2 ⟨by omega, by omega, by omega, by omega, by omega⟩)
    · exact bt (by simp [hyl, hyv]) (touch_c x y c gx gy n q pa po pc w ha ho hc d1 d2 ⟨by omega, by omega, by omega, by omega⟩)
  · by_cases hyv : y = v
    · subst hyv
      by_cases hxl : x < y
      · by_cases hgx : gx = c
        · subst hgx
          exact bt (by simp [hxl]) (touch_d x y gx gy n q pa po pc w ha ho hc d1 d2 ⟨by omega, by omega, by omega, by omega⟩)
        · exact bt (by simp [hgx, hxv]) (touch_e x y c gx gy n q pa po pc w ha ho hc d1 d2 ⟨by omega, by omega, by omega, by omega, by omega⟩)
      · exact bt (by simp [hxl, hxv]) (touch_f x y c gx gy n q pa po pc w ha ho hc d1 d2 ⟨by omega, by omega, by omega, by omega⟩)
    · exact bt (by simp [hxv, hyv]) (touch_g x y v c gx gy n q pa po pc w ha ho hc d1 d2 ⟨by omega, by omega, by omega, by omega⟩)
end Go.Proofs.Ytgpacajlfclobaa
