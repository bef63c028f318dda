/- A map[int]int in memory, read as a function. -/
import Derived.Test.YtccpjfppkahbmaaK1
import Derived.Test.YtccpjfppkahbmaaKD
import Derived.Maps.OwnSet
import Derived.Maps.Ext
namespace Go.Proofs.Ytccpjfppkahbmaa.PK
open Go.RowKit Go.Maps

theorem intLaw : Keyed Try.prog 3 := int_keyed Try.underlying3
theorem zeroInt (w : World) : (zeroValue 3).run Try.prog w = .ok (.int .i64 0) w := by kernel_rfl
theorem wf_int {k : Int} (h0 : -1000000 ≤ k) (h : k ≤ 1000000) : (Lit.int .i64 k).wf = true := WalkArith.wf_i64 (by omega)
theorem key_int {k : Int} (h0 : -1000000 ≤ k) (h : k ≤ 1000000) : keyOf Try.prog 3 (.int .i64 k) = some (.int .i64 k) := keyOf_int_mk Try.underlying3 (wf_int h0 h)
/-- What a map[int]int reads as. -/
structure MFI (D : DataW Unit) (f : Int → Option Int) : Prop where
  tidy : Tidy D
  has : ∀ x : Int, Maps.has D (.int .i64 x) = (f x).isSome
  val : ∀ x z : Int, D.atKey (.int .i64 x) (.lit (.int .i64 z)) = .lit (.int .i64 ((f x).getD z))
theorem MFI.empty : MFI (.map []) (fun _ => none) := ⟨tidy_empty, fun _ => rfl, fun _ _ => rfl⟩
def putI (f : Int → Option Int) (k y : Int) : Int → Option Int := fun x => if x = k then some y else f x
theorem lit_neI {a b : Int} (h : a ≠ b) : (Lit.int .i64 a) ≠ (Lit.int .i64 b) := fun e => h (by simpa using e)
theorem MFI.put {D : DataW Unit} {f : Int → Option Int} (h : MFI D f) (k y : Int) : MFI (D.put (.int .i64 k) (.lit (.int .i64 y))) (putI f k y) := by
  have ikl : WideAt.IsKeyLit (.int .i64 k) := trivial
  refine ⟨h.tidy.put ikl _, fun x => ?_, fun x z => ?_⟩
  · by_cases c : x = k
    · subst c
      rw [has_put_same h.tidy.isMap ikl]; simp [putI]
    · rw [has_put_other (lit_neI c), h.has]; simp [putI, c]
  · by_cases c : x = k
    · subst c
      rw [atKey_put_same h.tidy.isMap ikl]; simp [putI]
    · rw [atKey_put_other (lit_neI c), h.val]; simp [putI, c]
def OwnI (w : World) (b n : Nat) (D : DataW Unit) : Prop := w.ownsMap Try.prog 3 (plainElem Try.prog 3) b n D
theorem OwnI.below {w w' : World} {b n : Nat} {D : DataW Unit} (h : OwnI w b n D) (hb : Below w.heap.size w w') : OwnI w' b n D :=
  World.ownsMap.kept (row := none) h ⟨hb.os, hb.tape, hb.output, hb.size, fun k hk _ => hb.block k hk⟩ (by simp)
/-- A block is a map that reads as f; at most n stores have been made into it. -/
def MapI (w : World) (b n : Nat) (f : Int → Option Int) : Prop := ∃ D, OwnI w b n D ∧ MFI D f
theorem MapI.below {w w' : World} {b n : Nat} {f : Int → Option Int} (h : MapI w b n f) (hb : Below w.heap.size w w') : MapI w' b n f := by
  obtain ⟨D, ho, hm⟩ := h
  exact ⟨D, ho.below hb, hm⟩
theorem MapI.kept {w w' : World} {b n : Nat} {f : Int → Option Int} {row : Option Nat} (h : MapI w b n f) (hg : w.grownBy w' row) (hne : some b ≠ row) : MapI w' b n f := by
  obtain ⟨D, ho, hm⟩ := h
  exact ⟨D, World.ownsMap.kept ho hg hne, hm⟩
theorem MapI.lt {w : World} {b n : Nat} {f : Int → Option Int} (h : MapI w b n f) : b < w.heap.size := by
  obtain ⟨D, ho, _⟩ := h
  exact World.ownsMap.lt ho
theorem mapI_made (w : World) : MapI (w.alloc (.map #[] 0)) w.heap.size 0 (fun _ => none) := ⟨.map [], World.ownsMap_made w _ _ _, MFI.empty⟩
theorem turned_below {W w w' : World} {b B : Nat} (hb : Below B W w) (ht : w.mapTurned w' b) (hB : B ≤ W.heap.size) (hBb : B ≤ b) : Below B W w' := by
  have hg := ht.grown
  exact ⟨hg.os.trans hb.os, hg.tape.trans hb.tape, hg.output.trans hb.output, Nat.le_trans hb.size hg.size, fun k hk => by
    rw [hg.block k (by have := hb.size; omega) (by simp only [ne_eq, Option.some.injEq]; omega)]; exact hb.block k hk⟩
end Go.Proofs.Ytccpjfppkahbmaa.PK
