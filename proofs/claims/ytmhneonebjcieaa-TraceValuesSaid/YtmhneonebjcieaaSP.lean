/- slices.SortFunc(out, compare) at an own row of places. -/
import Derived.Test.YtmhneonebjcieaaSO
import Derived.Test.YtmhneonebjcieaaW2
import Derived.StillTailTactics
namespace Go.Proofs.Ytmhneonebjcieaa
open Go.RowKit Go.Sort Go.Shelf

theorem alloc_eq_grow (w : World) (o : Obj) : w.alloc o = grow w #[o] := by unfold World.alloc grow; rw [Array.push_eq_append]
theorem grow3 (w : World) (a b c : Obj) : ((w.alloc a).alloc b).drew.alloc c = grow (w.drewN 1) #[a, b, c] := by
  rw [alloc_eq_grow _ c, alloc_eq_grow _ b, alloc_eq_grow _ a]
  show grow (grow (grow w.drew #[a]) #[b]) #[c] = _
  rw [grow_grow, grow_grow]; rfl
set_option maxRecDepth 100000 in
set_option maxHeartbeats 1000000 in
theorem compare_grow (p q : Pl) (w : World) : Calls Try.prog 48 #[(.agg #[.int .i64 p.fr, .int .i64 p.to, .int .i64 p.va, .int .i64 p.ki, .int .i64 p.nn]), (.agg #[.int .i64 q.fr, .int .i64 q.to, .int .i64 q.va, .int .i64 q.ki, .int .i64 q.nn])] w fun e w' => e = .returned (.int .i64 (cmpP p q)) ∧ ∃ m os, w' = grow (w.drewN m) os := by
  rw [cmpP_first]
  have hb0 : Below w.heap.size w ((w.alloc (.cells #[.int .i64 p.fr, .int .i64 p.to, .int .i64 p.va, .int .i64 p.ki, .int .i64 p.nn] 38)).alloc (.cells #[.int .i64 q.fr, .int .i64 q.to, .int .i64 q.va, .int .i64 q.ki, .int .i64 q.nn] 38)) := ((Below.refl _ _).alloc (Nat.le_refl _) _).alloc (by simp) _
  have c0 : ((w.alloc (.cells #[.int .i64 p.fr, .int .i64 p.to, .int .i64 p.va, .int .i64 p.ki, .int .i64 p.nn] 38)).alloc (.cells #[.int .i64 q.fr, .int .i64 q.to, .int .i64 q.va, .int .i64 q.ki, .int .i64 q.nn] 38)).cell? ⟨w.heap.size, 0, none⟩ = some (.int .i64 p.fr) := by simp [go_sem]
  have c1 : ((w.alloc (.cells #[.int .i64 p.fr, .int .i64 p.to, .int .i64 p.va, .int .i64 p.ki, .int .i64 p.nn] 38)).alloc (.cells #[.int .i64 q.fr, .int .i64 q.to, .int .i64 q.va, .int .i64 q.ki, .int .i64 q.nn] 38)).cell? ⟨w.heap.size, 1, none⟩ = some (.int .i64 p.to) := by simp [go_sem]
  have c2 : ((w.alloc (.cells #[.int .i64 p.fr, .int .i64 p.to, .int .i64 p.va, .int .i64 p.ki, .int .i64 p.nn] 38)).alloc (.cells #[.int .i64 q.fr, .int .i64 q.to, .int .i64 q.va, .int .i64 q.ki, .int .i64 q.nn] 38)).cell? ⟨w.heap.size, 2, none⟩ = some (.int .i64 p.va) := by simp [go_sem]
  have c3 : ((w.alloc (.cells #[.int .i64 p.fr, .int .i64 p.to, .int .i64 p.va, .int .i64 p.ki, .int .i64 p.nn] 38)).alloc (.cells #[.int .i64 q.fr, .int .i64 q.to, .int .i64 q.va, .int .i64 q.ki, .int .i64 q.nn] 38)).cell? ⟨w.heap.size, 3, none⟩ = some (.int .i64 p.ki) := by simp [go_sem]
  have c4 : ((w.alloc (.cells #[.int .i64 p.fr, .int .i64 p.to, .int .i64 p.va, .int .i64 p.ki, .int .i64 p.nn] 38)).alloc (.cells #[.int .i64 q.fr, .int .i64 q.to, .int .i64 q.va, .int .i64 q.ki, .int .i64 q.nn] 38)).cell? ⟨w.heap.size, 4, none⟩ = some (.int .i64 p.nn) := by simp [go_sem]
  have c5 : ((w.alloc (.cells #[.int .i64 p.fr, .int .i64 p.to, .int .i64 p.va, .int .i64 p.ki, .int .i64 p.nn] 38)).alloc (.cells #[.int .i64 q.fr, .int .i64 q.to, .int .i64 q.va, .int .i64 q.ki, .int .i64 q.nn] 38)).cell? ⟨w.heap.size + 1, 0, none⟩ = some (.int .i64 q.fr) := by simp [go_sem]
  have c6 : ((w.alloc (.cells #[.int .i64 p.fr, .int .i64 p.to, .int .i64 p.va, .int .i64 p.ki, .int .i64 p.nn] 38)).alloc (.cells #[.int .i64 q.fr, .int .i64 q.to, .int .i64 q.va, .int .i64 q.ki, .int .i64 q.nn] 38)).cell? ⟨w.heap.size + 1, 1, none⟩ = some (.int .i64 q.to) := by simp [go_sem]
  have c7 : ((w.alloc (.cells #[.int .i64 p.fr, .int .i64 p.to, .int .i64 p.va, .int .i64 p.ki, .int .i64 p.nn] 38)).alloc (.cells #[.int .i64 q.fr, .int .i64 q.to, .int .i64 q.va, .int .i64 q.ki, .int .i64 q.nn] 38)).cell? ⟨w.heap.size + 1, 2, none⟩ = some (.int .i64 q.va) := by simp [go_sem]
  have c8 : ((w.alloc (.cells #[.int .i64 p.fr, .int .i64 p.to, .int .i64 p.va, .int .i64 p.ki, .int .i64 p.nn] 38)).alloc (.cells #[.int .i64 q.fr, .int .i64 q.to, .int .i64 q.va, .int .i64 q.ki, .int .i64 q.nn] 38)).cell? ⟨w.heap.size + 1, 3, none⟩ = some (.int .i64 q.ki) := by simp [go_sem]
  have c9 : ((w.alloc (.cells #[.int .i64 p.fr, .int .i64 p.to, .int .i64 p.va, .int .i64 p.ki, .int .i64 p.nn] 38)).alloc (.cells #[.int .i64 q.fr, .int .i64 q.to, .int .i64 q.va, .int .i64 q.ki, .int .i64 q.nn] 38)).cell? ⟨w.heap.size + 1, 4, none⟩ = some (.int .i64 q.nn) := by simp [go_sem]
  have HB0 := Lib.hid hb0
  clear hb0
  go_enter Try.func48, Try.ntmps48
  go_wp2_with fail
  generalize hw0 : ((w.alloc (.cells #[.int .i64 p.fr, .int .i64 p.to, .int .i64 p.va, .int .i64 p.ki, .int .i64 p.nn] 38)).alloc (.cells #[.int .i64 q.fr, .int .i64 q.to, .int .i64 q.va, .int .i64 q.ki, .int .i64 q.nn] 38)) = w0 at *
  have HW0 := Lib.hid hw0; clear hw0
  generalize hq : w.heap.size = q0 at *
  have HQ := Lib.hid hq; clear hq
  refine wp_region_still_tail 25 (by kernel_rfl) (by kernel_rfl) ?_
  simp only [List.take_succ_cons, List.take_zero, List.drop_succ_cons, List.drop_zero]
  repeat (first | still_step | still_call (compare1_any _ _ _))
  refine wpStill_nil ?_
  change wpList _ _ _ _ _ w0.drew
  go_wp2_with fail
  refine (or_any [cmp1 p.fr q.fr, cmp1 p.to q.to, cmp1 p.va q.va, cmp1 p.ki q.ki, cmp1 p.nn q.nn] (some ⟨w0.heap.size, 0, none⟩) 5 _ ?_ (by simp)).mono ?_
  · intro k hk
    refine ⟨_, _, rfl, ?_⟩
    have : k = 0 ∨ k = 1 ∨ k = 2 ∨ k = 3 ∨ k = 4 := by simp at hk; omega
    rcases this with rfl | rfl | rfl | rfl | rfl <;> simp [go_sem]
  rintro e w1 ⟨rfl, rfl⟩
  go_wp2_with fail
  go_ret
  refine ⟨rfl, 1, #[.cells #[.int .i64 p.fr, .int .i64 p.to, .int .i64 p.va, .int .i64 p.ki, .int .i64 p.nn] 38, .cells #[.int .i64 q.fr, .int .i64 q.to, .int .i64 q.va, .int .i64 q.ki, .int .i64 q.nn] 38, .cells #[.int .i64 (cmp1 p.fr q.fr), .int .i64 (cmp1 p.to q.to), .int .i64 (cmp1 p.va q.va), .int .i64 (cmp1 p.ki q.ki), .int .i64 (cmp1 p.nn q.nn)] 3], ?_⟩
  rw [← HW0.out]
  exact grow3 w _ _ _
theorem cmp_enter : ∀ args w, (callFunc 48 args).run Try.prog w = .ok (.enter 48 args) w := enters_of Try.func48 (by kernel_rfl) rfl
theorem cmp_lays (blk off size : Nat) (w : World) : CmpLays Try.prog 48 #[] enc5 5 cmpP blk off size w := fun m os dk _ x y => by
  show Calls Try.prog 48 #[(.agg #[.int .i64 x.fr, .int .i64 x.to, .int .i64 x.va, .int .i64 x.ki, .int .i64 x.nn]), (.agg #[.int .i64 y.fr, .int .i64 y.to, .int .i64 y.va, .int .i64 y.ki, .int .i64 y.nn])] _ _
  exact compare_grow x y _
theorem heap_sorted {w : World} {g n : Nat} {os : Array Obj} {cur : Array Value} {e : TypeId} (d : Array Pl) (hb : w.heap[g]? = some (.cells cur e (0, 0))) :
    (sortWorldK enc5 5 w g 0 n d os).heap[g]? = some (.cells (putCells id 0 (flatK enc5 5 d) cur) e (0, 0)) := by
  have hlt : g < w.heap.size := lt_of_block hb
  unfold sortWorldK putRowK putRow mapBlock grow
  simp only [heap_ahead]
  rw [Array.getElem?_append_left (by simpa using hlt), Array.getElem?_modify, if_pos rfl, hb]
  rfl
theorem sort_frame {w : World} {g n : Nat} {os : Array Obj} (d : Array Pl) : w.grownBy (sortWorldK enc5 5 w g 0 n d os) (some g) := by
  refine ⟨rfl, rfl, rfl, ?_, fun k hk hne => ?_⟩
  · unfold sortWorldK putRowK putRow mapBlock grow; simp
  · unfold sortWorldK putRowK putRow mapBlock grow
    simp only [heap_ahead]
    rw [Array.getElem?_append_left (by simpa using hk), Array.getElem?_modify, if_neg (fun e => hne (by rw [e]))]
theorem take_put (cur : Array Value) (l : List Pl) (h : l.length * 5 ≤ cur.size) : (putCells id 0 (flatK enc5 5 l.toArray) cur).toList.take (l.length * 5) = encPl l := by
  apply List.ext_getElem?
  intro i
  by_cases hi : i < l.length * 5
  · rw [List.getElem?_take, if_pos hi, flat_get l i hi]
    have hc : i < cur.size := by omega
    simp only [putCells, Array.getElem?_toList, Array.getElem?_mapIdx, Array.getElem?_eq_getElem hc, Option.map_some, size_flatK]
    rw [if_pos ⟨Nat.zero_le _, by simpa using hi⟩]
    rfl
  · rw [List.getElem?_take, if_neg hi, List.getElem?_eq_none (by rw [encPl_len]; omega)]
theorem sort_any (l : List Pl) (v : Value) (B : Nat) (w : World) (ho : w.ownsRow B 38 5 v l.length (encPl l)) (hl : l.length ≤ 1000) :
    Calls Try.prog 47 #[v, .func (.func 48) #[] #[]] w fun e w' => e = .returned (.tuple #[]) ∧ w'.ownsRow B 38 5 v l.length (encPl (sortP l)) ∧ w.grownBy w' v.ownBlock := by
  obtain ⟨hlen, ⟨rfl, h0⟩ | ⟨g, cap, cur, rfl, hb, hg, hnc, hm, hcs, ht⟩⟩ := ho
  · have : l = [] := List.length_eq_zero_iff.1 h0
    subst this
    refine (Try.slices_SortFunc_none (α := Pl) none 0 _ w).mono ?_
    rintro e w' ⟨rfl, rfl⟩
    exact ⟨rfl, ⟨by rw [encPl_len, sortP_len], .inl ⟨rfl, rfl⟩⟩, ⟨rfl, rfl, rfl, Nat.le_refl _, fun _ _ _ => rfl⟩⟩
  · have hH : HoldsK enc5 5 w g 0 l.toArray := by
      intro j hj
      have hj5 : j < l.length * 5 := by simpa using hj
      refine ⟨?_, frozen_of_row w g _ _ _ hg⟩
      rw [Nat.zero_add, cell_of_row w g j _ _ _ hg]
      have := flat_get l j hj5
      rw [← ht, List.getElem?_take, if_pos hj5] at this
      simpa using this
    have hs := Try.slices_SortFunc_total (α := Pl) 5 Try.isAgg38 Try.sizeOf38 enc5 (fun _ => rfl) (fun x v hv => by simp only [enc5, List.mem_cons, List.not_mem_nil, or_false] at hv; rcases hv with rfl | rfl | rfl | rfl | rfl <;> rfl) cmpP swoP 48 #[] g 0 cap l.toArray w cmp_enter (cmp_lays g 0 _ w) hH (lt_of_block hg) (by simp; omega) (fun x y h1 h2 => ltP_total h1 h2)
    have e1 : l.toArray.size = l.length := by simp
    rw [e1] at hs
    refine hs.mono ?_
    rintro e w' ⟨rfl, n, os, rfl⟩
    refine ⟨rfl, ⟨by rw [encPl_len, sortP_len], .inr ⟨g, cap, _, rfl, hb, heap_sorted _ hg, hnc, hm, by simpa [putCells] using hcs, ?_⟩⟩, sort_frame _⟩
    have := take_put cur (sortP l) (by rw [sortP_len, hcs]; exact Nat.mul_le_mul_right _ hnc)
    rw [sortP_len] at this
    exact this
end Go.Proofs.Ytmhneonebjcieaa
