/- What Merge computes, step by step; the map of the last places. -/
import Derived.Test.YtmhneonebjcieaaMK
import Derived.Test.YtmhneonebjcieaaP3
import Derived.Maps.OwnSet
import Derived.Maps.Ext
namespace Go.Proofs.Ytmhneonebjcieaa
open Go.RowKit Go.Maps

def setTo (l : List Pl) (k : Nat) (t : Int) : List Pl := l.set k ⟨(at' l k).fr, t, (at' l k).va, (at' l k).ki, (at' l k).nn⟩
theorem setTo_len (l : List Pl) (k : Nat) (t : Int) : (setTo l k t).length = l.length := by simp [setTo]
/-- The merged places so far, and where the last place of a thing is. -/
structure MSt where
  out : List Pl
  ix : Int × Int × Int → Option Nat
/-- What a place is, whatever its addresses are. -/
def thing (p : Pl) : Int × Int × Int := (p.va, p.ki, p.nn)
def updL (ix : Int × Int × Int → Option Nat) (k : Int × Int × Int) (v : Nat) : Int × Int × Int → Option Nat := fun j => if j = k then some v else ix j
def joins (s : MSt) (x : Pl) : Option Nat := match s.ix (thing x) with
  | some k => if (at' s.out k).to = x.fr then some k else none
  | none => none
def mStep (s : MSt) (x : Pl) : MSt := match joins s x with
  | some k => ⟨setTo s.out k x.to, s.ix⟩
  | none => ⟨s.out ++ [x], updL s.ix (thing x) s.out.length⟩
def mRun (l : List Pl) (k : Nat) : MSt := (l.take k).foldl mStep ⟨[], fun _ => none⟩
theorem mRun_next {l : List Pl} {k : Nat} (h : k < l.length) : mRun l (k + 1) = mStep (mRun l k) (at' l k) := by
  unfold mRun
  rw [take_next h, List.foldl_append]; rfl
/-- Every index is one of out. -/
structure MgOk (s : MSt) (k : Nat) : Prop where
  lt : ∀ j i, s.ix j = some i → i < s.out.length
  len : s.out.length ≤ k
theorem MgOk.step {s : MSt} {k : Nat} (h : MgOk s k) (x : Pl) : MgOk (mStep s x) (k + 1) := by
  unfold mStep
  split
  · rename_i i _
    refine ⟨fun j i' hj => ?_, ?_⟩
    · show i' < (setTo s.out i x.to).length
      rw [setTo_len]; exact h.lt j i' hj
    · show (setTo s.out i x.to).length ≤ k + 1
      rw [setTo_len]; have := h.len; omega
  · refine ⟨fun j i hj => ?_, ?_⟩
    · show i < (s.out ++ [x]).length
      rw [List.length_append]
      have hj : (if j = thing x then some s.out.length else s.ix j) = some i := hj
      split at hj
      · simp only [Option.some.injEq] at hj; simp; omega
      · have := h.lt j i hj; simp; omega
    · show (s.out ++ [x]).length ≤ k + 1
      rw [List.length_append]; have := h.len; simp; omega
theorem mOk_run (l : List Pl) : ∀ k, k ≤ l.length → MgOk (mRun l k) k
  | 0, _ => ⟨fun _ _ h => (by cases h), Nat.le_refl _⟩
  | k + 1, hk => by rw [mRun_next (by omega)]; exact (mOk_run l k (by omega)).step _

theorem keyL_inj {p q : Pl} (hp : Good p) (hq : Good q) (h : keyL p = keyL q) : thing p = thing q := by
  have := thingLaw.inj (keyOf_thing hp) (by rw [h]; exact keyOf_thing hq)
  simp only [Value.agg.injEq, Array.mk.injEq, List.cons.injEq, Value.int.injEq, true_and, and_true] at this
  unfold thing
  rw [this.1, this.2.1, this.2.2]
theorem keyL_of {p q : Pl} (h : thing p = thing q) : keyL p = keyL q := by
  unfold thing at h
  simp only [Prod.mk.injEq] at h
  unfold keyL
  rw [h.1, h.2.1, h.2.2]
/-- The datum of the map is the table of the last places. -/
structure MD (D : DataW Unit) (ix : Int × Int × Int → Option Nat) : Prop where
  tidy : Tidy D
  has : ∀ p : Pl, Good p → Maps.has D (keyL p) = (ix (thing p)).isSome
  val : ∀ (p : Pl) i, Good p → ix (thing p) = some i → ∀ z, D.atKey (keyL p) z = .lit (.int .i64 (i : Int))
theorem ikl (p : Pl) : WideAt.IsKeyLit (keyL p) := trivial
theorem MD.put {D : DataW Unit} {ix : Int × Int × Int → Option Nat} (h : MD D ix) {x : Pl} (hx : Good x) (v : Nat) : MD (D.put (keyL x) (.lit (.int .i64 (v : Int)))) (updL ix (thing x) v) := by
  refine ⟨h.tidy.put (ikl x) _, fun p hp => ?_, fun p i hp hi => ?_⟩
  · by_cases c : thing p = thing x
    · rw [keyL_of c, has_put_same h.tidy.isMap (ikl x)]; unfold updL; rw [if_pos c]; rfl
    · rw [has_put_other (fun e => c (keyL_inj hp hx e)), h.has p hp]; unfold updL; rw [if_neg c]
  · unfold updL at hi
    by_cases c : thing p = thing x
    · rw [if_pos c] at hi
      simp only [Option.some.injEq] at hi
      subst hi
      intro z
      rw [keyL_of c]
      exact atKey_put_same h.tidy.isMap (ikl x) _ _
    · rw [if_neg c] at hi
      intro z
      rw [atKey_put_other (fun e => c (keyL_inj hp hx e))]
      exact h.val p i hp hi z
end Go.Proofs.Ytmhneonebjcieaa
