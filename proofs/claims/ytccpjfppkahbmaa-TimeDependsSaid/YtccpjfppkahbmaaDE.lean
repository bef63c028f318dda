/- The walk of the function by which Depends sorts. -/
import Derived.Test.YtccpjfppkahbmaaDC
import Derived.Deep.RegionHeld3
import Derived.Test.YtccpjfppkahbmaaSS
namespace Go.Proofs.Ytccpjfppkahbmaa
open Go.RowKit PK Go.Sort Go.Shelf

theorem alloc_eq_grow (w : World) (o : Obj) : w.alloc o = grow w #[o] := by unfold World.alloc grow; rw [Array.push_eq_append]
theorem grow2n (w : World) (a b : Obj) (n : Nat) : ((w.alloc a).alloc b).drewN n = grow (w.drewN n) #[a, b] := by
  rw [alloc_eq_grow _ b, alloc_eq_grow _ a]
  show grow (grow (w.drewN n) #[a]) #[b] = _
  rw [grow_grow]; rfl
theorem by_grow (p q : Int × Int) (w : World) : Calls Try.prog 68 #[.agg #[.int .i64 p.1, .int .i64 p.2], .agg #[.int .i64 q.1, .int .i64 q.2]] w fun e w' => e = .returned (.int .i64 (cmp2 p q)) ∧ ∃ m os, w' = grow (w.drewN m) os := by
  have HC := Lib.hid (fun b1 b2 c1 c2 u h0 h1 h2 h3 => two_any p q b1 b2 c1 c2 u h0 h1 h2 h3)
  generalize cmp2 p q = r at *
  obtain ⟨p1, p2⟩ := p
  obtain ⟨q1, q2⟩ := q
  have c0 : ((w.alloc (.cells #[.int .i64 p1, .int .i64 p2] 87)).alloc (.cells #[.int .i64 q1, .int .i64 q2] 87)).cell? ⟨w.heap.size, 0, none⟩ = some (.int .i64 p1) := by simp [go_sem]
  have c1 : ((w.alloc (.cells #[.int .i64 p1, .int .i64 p2] 87)).alloc (.cells #[.int .i64 q1, .int .i64 q2] 87)).cell? ⟨w.heap.size, 1, none⟩ = some (.int .i64 p2) := by simp [go_sem]
  have c2 : ((w.alloc (.cells #[.int .i64 p1, .int .i64 p2] 87)).alloc (.cells #[.int .i64 q1, .int .i64 q2] 87)).cell? ⟨w.heap.size + 1, 0, none⟩ = some (.int .i64 q1) := by simp [go_sem]
  have c3 : ((w.alloc (.cells #[.int .i64 p1, .int .i64 p2] 87)).alloc (.cells #[.int .i64 q1, .int .i64 q2] 87)).cell? ⟨w.heap.size + 1, 1, none⟩ = some (.int .i64 q2) := by simp [go_sem]
  have HC : Hid (∀ b1 b2 c1 c2 u, u.cell? ⟨b1, 0, none⟩ = some (.int .i64 p1) → u.cell? ⟨b1, 1, none⟩ = some (.int .i64 p2) → u.cell? ⟨b2, 0, none⟩ = some (.int .i64 q1) → u.cell? ⟨b2, 1, none⟩ = some (.int .i64 q2) → Calls Try.prog 69 #[.slice (some ⟨b1, 0, none⟩) 2 c1, .slice (some ⟨b2, 0, none⟩) 2 c2] u fun e w' => e = .returned (.int .i64 r) ∧ u = w') := HC
  go_enter Try.func68, Try.ntmps68
  go_upto_region 1 with (fail)
  generalize hw0 : ((w.alloc (.cells #[.int .i64 p1, .int .i64 p2] 87)).alloc (.cells #[.int .i64 q1, .int .i64 q2] 87)) = w0 at *
  have HW0 := Lib.hid hw0; clear hw0
  generalize hq : w.heap.size = q0 at *
  have HQ := Lib.hid hq; clear hq
  go_region_held3 (fun w' => w'.cell? ⟨q0, 0, none⟩ = some (.int .i64 p1) ∧ w'.cell? ⟨q0, 1, none⟩ = some (.int .i64 p2) ∧ w'.cell? ⟨q0 + 1, 0, none⟩ = some (.int .i64 q1) ∧ w'.cell? ⟨q0 + 1, 1, none⟩ = some (.int .i64 q2))
    (first | exact ⟨c0, c1, c2, c3⟩)
    (first | (go_at_call 69; refine (HC.out _ _ _ _ w0.drew c0 c1 c2 c3).mono ?_; rintro e w5 ⟨rfl, rfl⟩))
  go_wp2_with fail
  go_ret
  refine ⟨rfl, 1, #[.cells #[.int .i64 p1, .int .i64 p2] 87, .cells #[.int .i64 q1, .int .i64 q2] 87], ?_⟩
  rw [← HW0.out]
  exact grow2n w _ _ 1
instance : Inhabited (Int × Int) := ⟨(0, 0)⟩
def enc2 (p : Int × Int) : List Value := [.int .i64 p.1, .int .i64 p.2]
theorem lt2_iff (x y : Int × Int) : ltOf cmp2 x y = true ↔ x.1 < y.1 ∨ (x.1 = y.1 ∧ x.2 < y.2) := by
  show decide (cmp2 x y < 0) = true ↔ _
  rw [decide_eq_true_eq]
  unfold cmp2 cmp1
  repeat' split
  all_goals omega
theorem lt2_not (x y : Int × Int) : ltOf cmp2 x y = false ↔ ¬ (x.1 < y.1 ∨ (x.1 = y.1 ∧ x.2 < y.2)) := by
  rw [← lt2_iff, Bool.not_eq_true]
theorem lt2_total {x y : Int × Int} (h1 : ltOf cmp2 x y = false) (h2 : ltOf cmp2 y x = false) : x = y := by
  rw [lt2_not] at h1 h2
  exact Prod.ext (by omega) (by omega)
theorem swo2 : SWO (ltOf cmp2) where
  irrefl x := by rw [lt2_not]; omega
  trans x y z h1 h2 := by rw [lt2_iff] at *; omega
  ntrans x y z h1 h2 := by rw [lt2_not] at *; omega
def sort2 (l : StrL) : StrL := l.mergeSort fun x y => !(ltOf cmp2) y x
theorem sort2_len (l : StrL) : (sort2 l).length = l.length := List.length_mergeSort _
theorem getB (l : StrL) (q : Nat) : l.toArray[q]! = atH l q := by
  unfold atH
  rw [List.getD_eq_getElem?_getD]
  by_cases h : q < l.length
  · simp [h]
  · simp [h]; rfl
theorem flat_get (l : StrL) (i : Nat) (h : i < l.length * 2) : (encH l)[i]? = some ((flatK enc2 2 l.toArray)[i]!) := by
  rw [get_flatK enc2 2 l.toArray i (by simpa using h), getB]
  obtain ⟨e0, e1⟩ := encH_get l (i / 2) (by omega)
  have hr : i % 2 = 0 ∨ i % 2 = 1 := by omega
  rcases hr with h | h
  · rw [h, show i = i / 2 * 2 by omega, e0, show i / 2 * 2 / 2 = i / 2 by omega]; rfl
  · rw [h, show i = i / 2 * 2 + 1 by omega, e1, show (i / 2 * 2 + 1) / 2 = i / 2 by omega]; rfl
theorem cmp_enter : ∀ args w, (callFunc 68 args).run Try.prog w = .ok (.enter 68 args) w := enters_of Try.func68 (by kernel_rfl) rfl
theorem cmp_lays (blk off size : Nat) (w : World) : CmpLays Try.prog 68 #[] enc2 2 cmp2 blk off size w := fun m os dk _ x y => by
  show Calls Try.prog 68 #[.agg #[.int .i64 x.1, .int .i64 x.2], .agg #[.int .i64 y.1, .int .i64 y.2]] _ _
  exact by_grow x y _
theorem heap_sorted {w : World} {g n : Nat} {os : Array Obj} {cur : Array Value} {e : TypeId} (d : Array (Int × Int)) (hb : w.heap[g]? = some (.cells cur e (0, 0))) :
    (sortWorldK enc2 2 w g 0 n d os).heap[g]? = some (.cells (putCells id 0 (flatK enc2 2 d) cur) e (0, 0)) := by
  have hlt : g < w.heap.size := lt_of_block hb
  unfold sortWorldK putRowK putRow mapBlock grow
  simp only [heap_ahead]
  rw [Array.getElem?_append_left (by simpa using hlt), Array.getElem?_modify, if_pos rfl, hb]
  rfl
theorem sort_frame {w : World} {g n : Nat} {os : Array Obj} (d : Array (Int × Int)) : w.grownBy (sortWorldK enc2 2 w g 0 n d os) (some g) := by
  refine ⟨rfl, rfl, rfl, ?_, fun k hk hne => ?_⟩
  · unfold sortWorldK putRowK putRow mapBlock grow; simp
  · unfold sortWorldK putRowK putRow mapBlock grow
    simp only [heap_ahead]
    rw [Array.getElem?_append_left (by simpa using hk), Array.getElem?_modify, if_neg (fun e => hne (by rw [e]))]
theorem take_put (cur : Array Value) (l : StrL) (h : l.length * 2 ≤ cur.size) : (putCells id 0 (flatK enc2 2 l.toArray) cur).toList.take (l.length * 2) = encH l := by
  apply List.ext_getElem?
  intro i
  by_cases hi : i < l.length * 2
  · rw [List.getElem?_take, if_pos hi, flat_get l i hi]
    have hc : i < cur.size := by omega
    simp only [putCells, Array.getElem?_toList, Array.getElem?_mapIdx, Array.getElem?_eq_getElem hc, Option.map_some, size_flatK]
    rw [if_pos ⟨Nat.zero_le _, by simpa using hi⟩]
    rfl
  · rw [List.getElem?_take, if_neg hi, List.getElem?_eq_none (by rw [encH_len]; omega)]
theorem sort2_any (l : StrL) (v : Value) (B : Nat) (w : World) (ho : w.ownsRow B 87 2 v l.length (encH l)) (hl : l.length ≤ 2000) :
    Calls Try.prog 67 #[v, .func (.func 68) #[] #[]] w fun e w' => e = .returned (.tuple #[]) ∧ w'.ownsRow B 87 2 v l.length (encH (sort2 l)) ∧ w.grownBy w' v.ownBlock := by
  obtain ⟨hlen, ⟨rfl, h0⟩ | ⟨g, cap, cur, rfl, hb, hg, hnc, hm, hcs, ht⟩⟩ := ho
  · have : l = [] := List.length_eq_zero_iff.1 h0
    subst this
    refine (Try.slices_SortFunc_none (α := Int × Int) none 0 _ w).mono ?_
    rintro e w' ⟨rfl, rfl⟩
    exact ⟨rfl, ⟨by rw [encH_len, sort2_len], .inl ⟨rfl, rfl⟩⟩, ⟨rfl, rfl, rfl, Nat.le_refl _, fun _ _ _ => rfl⟩⟩
  · have hH : HoldsK enc2 2 w g 0 l.toArray := by
      intro j hj
      have hj2 : j < l.length * 2 := by simpa using hj
      refine ⟨?_, frozen_of_row w g _ _ _ hg⟩
      rw [Nat.zero_add, cell_of_row w g j _ _ _ hg]
      have := flat_get l j hj2
      rw [← ht, List.getElem?_take, if_pos hj2] at this
      simpa using this
    have hs := Try.slices_SortFunc_total (α := Int × Int) 2 Try.isAgg87 Try.sizeOf87 enc2 (fun _ => rfl) (fun x v hv => by simp only [enc2, List.mem_cons, List.not_mem_nil, or_false] at hv; rcases hv with rfl | rfl <;> rfl) cmp2 swo2 68 #[] g 0 cap l.toArray w cmp_enter (cmp_lays g 0 _ w) hH (lt_of_block hg) (by simp; omega) (fun x y h1 h2 => lt2_total h1 h2)
    have e1 : l.toArray.size = l.length := by simp
    rw [e1] at hs
    refine hs.mono ?_
    rintro e w' ⟨rfl, n, os, rfl⟩
    refine ⟨rfl, ⟨by rw [encH_len, sort2_len], .inr ⟨g, cap, _, rfl, hb, heap_sorted _ hg, hnc, hm, by simpa [putCells] using hcs, ?_⟩⟩, sort_frame _⟩
    have := take_put cur (sort2 l) (by rw [sort2_len, hcs]; exact Nat.mul_le_mul_right _ hnc)
    rw [sort2_len] at this
    exact this
end Go.Proofs.Ytccpjfppkahbmaa
