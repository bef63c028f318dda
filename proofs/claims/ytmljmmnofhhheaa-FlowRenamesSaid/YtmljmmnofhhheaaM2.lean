/- Plain facts on the document's way to reach nodes: a list of nodes to do. -/
import Derived.Test.YtmljmmnofhhheaaM
namespace Go.Proofs.Ytmljmmnofhhheaa

/-- How many below n are not in a set. -/
def cntN (n : Nat) (S : NSet) : Nat := ((List.range n).filter fun j => !S j).length
theorem cntN_mark {n : Nat} {S : NSet} {v : Nat} (hv : v < n) (h : S v = false) : cntN n (mark S v) < cntN n S := by
  unfold cntN
  rw [← List.countP_eq_length_filter, ← List.countP_eq_length_filter]
  exact countP_lt (v := v) (fun j _ hj => by
    have : mark S v j = false := by simpa using hj
    simp only [Bool.not_eq_true']
    rw [← Bool.not_eq_true]
    intro c; rw [mark_of c] at this; cases this) (by simpa using hv) (by simp [h]) (by simp [mark_self])
theorem cntN_le (n : Nat) (S : NSet) : cntN n S ≤ n := by
  unfold cntN; exact Nat.le_trans (List.length_filter_le _ _) (by simp)

theorem getD_append {l : List Nat} {x i : Nat} (h : i < l.length) : (l ++ [x]).getD i 0 = l.getD i 0 := by
  simp only [List.getD_eq_getElem?_getD]; rw [List.getElem?_append_left h]

/-- The nodes to do: the first k are done, of the next one the first i successors. -/
structure Bfs (g : Gr) (but : Int) (s : Nat) (k i : Nat) (xs : List Nat) (S : NSet) : Prop where
  mem : ∀ j, S j = true ↔ j ∈ xs
  new : ∀ j, j ∈ xs → ReachB g but s j
  first : s ∈ xs
  done : ∀ m, m < k → ∀ x ∈ succ g (xs.getD m 0), (x : Int) ≠ but → x ∈ xs
  part : ∀ m, m < i → ((succ g (xs.getD k 0)).getD m 0 : Int) ≠ but → (succ g (xs.getD k 0)).getD m 0 ∈ xs
  count : xs.length + cntN g.length S ≤ g.length
  here : k ≤ xs.length
  inner : 0 < i → k < xs.length
theorem Bfs.start {g : Gr} {but : Int} {s : Nat} (hs : (s : Int) ≠ but) (hl : s < g.length) : Bfs g but s 0 0 [s] (mark (fun _ => false) s) := by
  refine ⟨fun j => by simp [mark], fun j hj => ?_, by simp, fun m hm => absurd hm (Nat.not_lt_zero _), fun m hm => absurd hm (Nat.not_lt_zero _), ?_, by simp, fun h => by omega⟩
  · have : j = s := by simpa using hj
    subst this; exact .here hs
  · have := cntN_mark (S := fun _ => false) hl rfl
    have := cntN_le g.length (fun _ => false)
    simp; omega
theorem Bfs.len {g : Gr} {but : Int} {s k i : Nat} {xs : List Nat} {S : NSet} (h : Bfs g but s k i xs S) : xs.length ≤ g.length := by
  have := h.count; omega
/-- A successor that is left out, or that is there. -/
theorem Bfs.skip {g : Gr} {but : Int} {s k i : Nat} {xs : List Nat} {S : NSet} (h : Bfs g but s k i xs S) (hk : k < xs.length)
    (hx : ((succ g (xs.getD k 0)).getD i 0 : Int) ≠ but → S ((succ g (xs.getD k 0)).getD i 0) = true) : Bfs g but s k (i + 1) xs S := by
  refine ⟨h.mem, h.new, h.first, h.done, fun m hm hb => ?_, h.count, h.here, fun _ => hk⟩
  rcases Nat.lt_or_ge m i with c | c
  · exact h.part m c hb
  · obtain rfl : m = i := by omega
    exact (h.mem _).1 (hx hb)
/-- A successor that is new. -/
theorem Bfs.push {g : Gr} {but : Int} {s k i : Nat} {xs : List Nat} {S : NSet} (h : Bfs g but s k i xs S) (hf : Fits g) (hk : k < xs.length) (hi : i < (succ g (xs.getD k 0)).length)
    (hb : ((succ g (xs.getD k 0)).getD i 0 : Int) ≠ but) (hS : S ((succ g (xs.getD k 0)).getD i 0) = false) :
    Bfs g but s k (i + 1) (xs ++ [(succ g (xs.getD k 0)).getD i 0]) (mark S ((succ g (xs.getD k 0)).getD i 0)) := by
  have hmem := getD_mem hi
  have hr : ReachB g but s (xs.getD k 0) := h.new _ (getD_mem hk)
  generalize hx : (succ g (xs.getD k 0)).getD i 0 = x at *
  refine ⟨fun j => ?_, fun j hj => ?_, by simp [h.first], fun m hm y hy hyb => ?_, fun m hm hmb => ?_, ?_, ?_, fun _ => ?_⟩
  · rw [List.mem_append]
    constructor
    · intro c
      rcases mark_cases c with c | rfl
      · exact .inl ((h.mem j).1 c)
      · exact .inr (by simp)
    · intro c
      rcases c with c | c
      · exact mark_of ((h.mem j).2 c)
      · have : j = x := by simpa using c
        subst this; exact mark_self S j
  · rcases List.mem_append.1 hj with c | c
    · exact h.new j c
    · have : j = x := by simpa using c
      subst this; exact .step hr hmem hb
  · rw [getD_append (by omega)] at hy
    exact List.mem_append_left _ (h.done m hm y hy hyb)
  · rw [getD_append hk] at hmb ⊢
    rcases Nat.lt_or_ge m i with c | c
    · exact List.mem_append_left _ (h.part m c hmb)
    · obtain rfl : m = i := by omega
      rw [hx]; simp
  · have := cntN_mark (S := S) (hf _ _ hmem) hS
    have := h.count
    rw [List.length_append]; simp; omega
  · have := h.here; rw [List.length_append]; omega
  · rw [List.length_append]; omega
theorem Bfs.next {g : Gr} {but : Int} {s k : Nat} {xs : List Nat} {S : NSet} (hk : k < xs.length) (h : Bfs g but s k (succ g (xs.getD k 0)).length xs S) : Bfs g but s (k + 1) 0 xs S := by
  refine ⟨h.mem, h.new, h.first, fun m hm x hx hb => ?_, fun m hm => absurd hm (Nat.not_lt_zero _), h.count, hk, fun c => by omega⟩
  rcases Nat.lt_or_ge m k with c | c
  · exact h.done m c x hx hb
  · obtain rfl : m = k := by omega
    obtain ⟨i, hi, rfl⟩ := List.mem_iff_getElem.1 hx
    have := h.part i hi
    rw [List.getD_eq_getElem?_getD, List.getElem?_eq_getElem hi] at this
    exact this hb
theorem Bfs.next' {g : Gr} {but : Int} {s k x : Nat} {xs : List Nat} {S : NSet} (h : Bfs g but s k (succ g x).length xs S) (hk : k < xs.length) (hx : xs.getD k 0 = x) : Bfs g but s (k + 1) 0 xs S :=
  Bfs.next hk (by rw [hx]; exact h)
theorem Bfs.all {g : Gr} {but : Int} {s : Nat} {xs : List Nat} {S : NSet} (h : Bfs g but s xs.length 0 xs S) : S = rs g but s := by
  funext j
  rw [Bool.eq_iff_iff, rs_iff, h.mem]
  constructor
  · exact h.new j
  · intro hr
    refine hr.ind (· ∈ xs) (fun _ => h.first) (fun u x _ hu hx hb => ?_)
    obtain ⟨m, hm, rfl⟩ := List.mem_iff_getElem.1 hu
    refine h.done m hm x ?_ hb
    rw [List.getD_eq_getElem?_getD, List.getElem?_eq_getElem hm]; exact hx
theorem rs_none {g : Gr} {but : Int} {s : Nat} (h : (s : Int) = but) : rs g but s = fun _ => false := by
  funext j
  rw [← Bool.not_eq_true, rs_iff]
  intro c
  exact c.start h
end Go.Proofs.Ytmljmmnofhhheaa
