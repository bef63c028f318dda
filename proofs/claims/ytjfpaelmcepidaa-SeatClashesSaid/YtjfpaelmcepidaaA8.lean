/- The frame places that a program uses: plainly; slices.Compact of a row of the call's own. -/
import Derived.Test.YtjfpaelmcepidaaA7
import Derived.Lib.SlicesCompact
namespace Go.Proofs.Ytjfpaelmcepidaa.PK
open Go.RowKit Go.Lib Go.Shelf Go.Sort

theorem compact_upto (d : Array Int) (hs : ∀ i j, i ≤ j → j < d.size → d[i]! ≤ d[j]!) : ∀ m, m ≤ d.size → (compactUpTo d m).Pairwise (· < ·) ∧ (∀ x ∈ compactUpTo d m, ∃ j, j < m ∧ d[j]! = x) ∧ ∀ j, j < m → d[j]! ∈ compactUpTo d m
  | 0, _ => by
    refine ⟨?_, ?_, fun j hj => absurd hj (Nat.not_lt_zero _)⟩
    · simp [compactUpTo]
    · intro x hx; simp [compactUpTo] at hx
  | m + 1, h => by
    obtain ⟨h1, h2, h3⟩ := compact_upto d hs m (by omega)
    rw [compactUpTo_succ]
    by_cases hk : keeps d m = true
    · rw [if_pos hk]
      refine ⟨?_, fun x hx => ?_, fun j hj => ?_⟩
      · rw [List.pairwise_append]
        refine ⟨h1, by simp, fun x hx y hy => ?_⟩
        obtain ⟨j, hj, rfl⟩ := h2 x hx
        rw [List.mem_singleton] at hy
        subst hy
        have hm : d[m]! ≠ d[m - 1]! := by
          have h4 : m = 0 ∨ d[m]! ≠ d[m - 1]! := by simpa [keeps] using hk
          rcases h4 with h4 | h4
          · omega
          · exact h4
        have e1 := hs j (m - 1) (by omega) (by omega)
        have e2 := hs (m - 1) m (by omega) (by omega)
        omega
      · rcases List.mem_append.1 hx with hx | hx
        · obtain ⟨j, hj, e⟩ := h2 x hx
          exact ⟨j, by omega, e⟩
        · rw [List.mem_singleton] at hx
          exact ⟨m, by omega, hx.symm⟩
      · by_cases e : j = m
        · subst e; simp
        · exact List.mem_append_left _ (h3 j (by omega))
    · rw [if_neg hk, List.append_nil]
      have hm : 0 < m ∧ d[m]! = d[m - 1]! := by
        have h4 : ¬ (m = 0 ∨ d[m]! ≠ d[m - 1]!) := by simpa [keeps] using hk
        refine ⟨by omega, ?_⟩
        exact Classical.byContradiction fun e => h4 (.inr e)
      refine ⟨h1, fun x hx => ?_, fun j hj => ?_⟩
      · obtain ⟨j, hj, e⟩ := h2 x hx
        exact ⟨j, by omega, e⟩
      · by_cases e : j = m
        · subst e
          rw [hm.2]
          exact h3 _ (by omega)
        · exact h3 j (by omega)
theorem compact_facts (zs : List Int) (hs : zs.Pairwise (· ≤ ·)) : (compact zs).Pairwise (· < ·) ∧ ∀ x, x ∈ compact zs ↔ x ∈ zs := by
  have hget : ∀ j, (h : j < zs.length) → zs.toArray[j]! = zs[j] := fun j h => by rw [getElem!_pos zs.toArray j (by simpa using h)]; simp
  have hs2 : ∀ i j, i ≤ j → j < zs.toArray.size → zs.toArray[i]! ≤ zs.toArray[j]! := fun i j hij hj => by
    have hj2 : j < zs.length := by simpa using hj
    rw [hget i (by omega), hget j hj2]
    by_cases e : i = j
    · subst e; exact Int.le_refl _
    · exact List.pairwise_iff_getElem.1 hs i j (by omega) hj2 (by omega)
  obtain ⟨h1, h2, h3⟩ := compact_upto zs.toArray hs2 zs.length (by simp)
  refine ⟨h1, fun x => ⟨fun hx => ?_, fun hx => ?_⟩⟩
  · obtain ⟨j, hj, rfl⟩ := h2 x hx
    rw [hget j hj]
    exact List.getElem_mem hj
  · obtain ⟨j, hj, rfl⟩ := List.mem_iff_getElem.1 hx
    rw [← hget j hj]
    exact h3 j hj
theorem sorted_ext {a b : List Int} (ha : a.Pairwise (· < ·)) (hb : b.Pairwise (· < ·)) (h : ∀ x, x ∈ a ↔ x ∈ b) : a = b :=
  List.Perm.eq_of_pairwise (le := fun x y : Int => x < y) (fun x y _ _ h1 h2 => by omega) ha hb
    ((List.perm_ext_iff_of_nodup (ha.imp fun h e => by omega) (hb.imp fun h e => by omega)).2 h)
theorem encI_take (xs : List Int) (m : Nat) : encI (xs.take m) = (encI xs).take m := by simp [encI, List.map_take]
theorem owns_take {w : World} {B n m : Nat} {e : TypeId} {a : Option Addr} {cap : Nat} {xs : List Value} (h : w.ownsRow B e 1 (.slice a n cap) n xs) (hm : m ≤ n) : w.ownsRow B e 1 (.slice a m cap) m (xs.take m) := by
  obtain ⟨hl, ⟨e0, h0⟩ | ⟨g, cap', cur, e0, hb, hg, hnc, hmx, hcs, ht⟩⟩ := h
  · cases e0
    obtain rfl : m = 0 := by omega
    exact ⟨by simp, .inl ⟨rfl, rfl⟩⟩
  · cases e0
    refine ⟨by rw [List.length_take]; omega, .inr ⟨g, _, cur, rfl, hb, hg, Nat.le_trans hm hnc, hmx, hcs, ?_⟩⟩
    rw [← ht, List.take_take]
    congr 1; omega
theorem grow_empty (w : World) : grow w #[] = w := by unfold grow; simp
/-- What a row of the call's own holds when a library function has written it. -/
theorem owns_put {w : World} {B g cap q m : Nat} {cur : Array Value} {e : TypeId} {xs ts : List Int} (hB : B ≤ g) (hb : w.heap[g]? = some (.cells cur e (0, 0))) (h1 : xs.length ≤ cap) (h2 : cap ≤ maxLen) (h3 : cur.size = cap * 1) (hl : ts.length = xs.length) (hm : m ≤ xs.length) :
    (putRow (Value.int .i64) (Sort.ahead w q) g 0 ts.toArray).ownsRow B e 1 (.slice (some ⟨g, 0, none⟩) m cap) m (encI (ts.take m)) ∧ Below B w (putRow (Value.int .i64) (Sort.ahead w q) g 0 ts.toArray) := by
  have ho := ownsRow_sortedI (n := q) (os := #[]) hl hB hb h1 h2 h3
  have hg := grownBy_sortedI (w := w) (g := g) (n := q) (os := #[]) ts.toArray
  rw [grow_empty] at ho hg
  rw [encI_take]
  exact ⟨owns_take (n := xs.length) ho hm, ⟨hg.os, hg.tape, hg.output, hg.size, fun k hk => by
    by_cases hks : k < w.heap.size
    · exact hg.block k hks (fun e => by cases e; omega)
    · have : w.heap.size ≤ g := by omega
      exact absurd (lt_of_block hb) (by omega)⟩⟩
/-- Compact of a row of the call's own. -/
theorem compact_any (B : Nat) (v : Value) (xs : List Int) (w : World) (hown : w.ownsRow B 3 1 v xs.length (encI xs)) (hl : xs.length ≤ 10000000) :
    Calls Try.prog 39 #[v] w fun e w' => (∃ v', e = .returned v' ∧ w'.ownsRow B 3 1 v' (Lib.compact xs).length (encI (Lib.compact xs))) ∧ Below B w w' := by
  rcases hown.2 with ⟨rfl, h0⟩ | ⟨g, cap, cur, rfl, hB, hg, hnc, hm, hcs, ht⟩
  · have hx : xs = [] := List.length_eq_zero_iff.1 h0
    subst hx
    exact (Try.slices_Compact_int_empty none 0 w).mono fun e w' ⟨h1, h2⟩ => by
      subst h2
      exact ⟨⟨_, h1, owns_nil _ _ _ _⟩, ⟨rfl, rfl, rfl, Nat.le_refl _, fun _ _ => rfl⟩⟩
  · have hH : Holds (Value.int .i64) w g 0 xs.toArray := holds_of_blockI hg (by rw [Nat.mul_one] at ht; exact ht)
    refine (Try.slices_Compact_int g 0 cap xs w hH (by omega) hnc).mono fun e w' ⟨h1, q, h2⟩ => ?_
    subst h2
    have hlen := Lib.compact_length_le xs
    have ho := owns_put (q := q) (m := (Lib.compact xs).length) (ts := Lib.compact xs ++ List.replicate (xs.length - (Lib.compact xs).length) 0) hB hg hnc hm hcs (by rw [List.length_append, List.length_replicate]; omega) hlen
    rw [List.take_left] at ho
    exact ⟨⟨_, h1, ho.1⟩, ho.2⟩

/-! ### Frame places, plainly -/
def frmB (x : Cd) : Bool := decide (18 ≤ x.op) && decide (x.op ≤ 23) && decide (x.a = -1) && decide (1024 ≤ x.im) && decide (x.im < 1824) && decide ((x.im - 1024) % 4 = 0)
def frmI (x : Cd) : Int := ((x.im - 1024) / 4 : Nat)
def frmL : List Cd → List Int
  | [] => []
  | x :: l => if frmB x then frmI x :: frmL l else frmL l
theorem frmL_app (a b : List Cd) : frmL (a ++ b) = frmL a ++ frmL b := by
  induction a with
  | nil => rfl
  | cons x a ih =>
    rw [List.cons_append, frmL, frmL, ih]
    split <;> rfl
theorem frmL_len : ∀ l : List Cd, (frmL l).length ≤ l.length
  | [] => Nat.le_refl _
  | x :: l => by
    have := frmL_len l
    unfold frmL
    split <;> simp <;> omega
theorem frmL_mem {k : Int} : ∀ {l : List Cd}, k ∈ frmL l ↔ ∃ x ∈ l, frmB x = true ∧ k = frmI x
  | [] => by simp [frmL]
  | x :: l => by
    have ih := frmL_mem (k := k) (l := l)
    unfold frmL
    split
    · rename_i h
      rw [List.mem_cons, ih]
      constructor
      · rintro (rfl | ⟨y, hy, h1⟩)
        · exact ⟨x, by simp, h, rfl⟩
        · exact ⟨y, by simp [hy], h1⟩
      · rintro ⟨y, hy, h1, h2⟩
        rcases List.mem_cons.1 hy with rfl | hy
        · exact .inl h2
        · exact .inr ⟨y, hy, h1, h2⟩
    · rename_i h
      rw [ih]
      constructor
      · rintro ⟨y, hy, h1⟩; exact ⟨y, by simp [hy], h1⟩
      · rintro ⟨y, hy, h1, h2⟩
        rcases List.mem_cons.1 hy with rfl | hy
        · exact absurd h1 h
        · exact ⟨y, hy, h1, h2⟩
/-- What has been collected ahead of instruction i of block b. -/
def frmO (ls : List (List Cd)) (b i : Nat) : List Int := (ls.take b).flatMap frmL ++ frmL ((atB ls b).take i)
theorem frmO_start (ls : List (List Cd)) : frmO ls 0 0 = [] := by simp [frmO, frmL]
theorem frmO_turn {ls : List (List Cd)} {b : Nat} (h : b < ls.length) : frmO ls b (atB ls b).length = frmO ls (b + 1) 0 := by
  unfold frmO
  rw [List.take_length, List.take_succ_eq_append_getElem h, List.flatMap_append, ← atB_get h]
  simp [frmL]
theorem take_one {l : List Cd} {i : Nat} (h : i < l.length) : l.take (i + 1) = l.take i ++ [atC l i] := by
  rw [List.take_succ_eq_append_getElem h, ← atC_get h]
theorem frmO_skip {ls : List (List Cd)} {b i : Nat} (h : i < (atB ls b).length) (hn : frmB (atC (atB ls b) i) = false) : frmO ls b (i + 1) = frmO ls b i := by
  unfold frmO
  rw [take_one h, frmL_app]
  have : frmL [atC (atB ls b) i] = [] := by unfold frmL; rw [if_neg (by rw [hn]; decide)]; rfl
  rw [this, List.append_nil]
theorem frmO_put {ls : List (List Cd)} {b i : Nat} (h : i < (atB ls b).length) (hn : frmB (atC (atB ls b) i) = true) : frmO ls b (i + 1) = frmO ls b i ++ [frmI (atC (atB ls b) i)] := by
  unfold frmO
  rw [take_one h, frmL_app]
  have : frmL [atC (atB ls b) i] = [frmI (atC (atB ls b) i)] := by unfold frmL; rw [if_pos hn]; rfl
  rw [this, List.append_assoc]
theorem frmO_len {ls : List (List Cd)} {n : Nat} (hn : ∀ k, k < ls.length → (atB ls k).length ≤ n) : ∀ b, b ≤ ls.length → ((ls.take b).flatMap frmL).length ≤ b * n
  | 0, _ => by simp
  | b + 1, h => by
    have ih := frmO_len hn b (by omega)
    rw [List.take_succ_eq_append_getElem (show b < ls.length by omega), List.flatMap_append, List.length_append]
    have h1 := frmL_len (ls[b])
    have h2 := hn b (by omega)
    rw [atB_get (show b < ls.length by omega)] at h2
    simp only [List.flatMap_cons, List.flatMap_nil, List.append_nil]
    rw [Nat.add_mul]; omega
/-- A place of the frame that is used. -/
def FrmIn (ls : List (List Cd)) (k : Int) : Prop := ∃ l ∈ ls, ∃ x ∈ l, frmB x = true ∧ k = frmI x
theorem frmO_fin (ls : List (List Cd)) (k : Int) : k ∈ frmO ls ls.length 0 ↔ FrmIn ls k := by
  unfold frmO FrmIn
  rw [List.take_length, List.take_zero, frmL, List.append_nil, List.mem_flatMap]
  constructor
  · rintro ⟨l, hl, h⟩; exact ⟨l, hl, frmL_mem.1 h⟩
  · rintro ⟨l, hl, h⟩; exact ⟨l, hl, frmL_mem.2 h⟩
structure IsFrm (ls : List (List Cd)) (l : List Int) : Prop where
  sorted : l.Pairwise (· < ·)
  mem : ∀ k, k ∈ l ↔ FrmIn ls k
theorem IsFrm.unique {ls : List (List Cd)} {l m : List Int} (h : IsFrm ls l) (h' : IsFrm ls m) : l = m := sorted_ext h.sorted h'.sorted fun k => (h.mem k).trans (h'.mem k).symm
def sortL (zs : List Int) : List Int := zs.mergeSort fun x y => decide (x ≤ y)
theorem sortL_facts (zs : List Int) : (sortL zs).Pairwise (· ≤ ·) ∧ (∀ x, x ∈ sortL zs ↔ x ∈ zs) ∧ (sortL zs).length = zs.length := by
  refine ⟨?_, fun x => (List.mergeSort_perm _ _).mem_iff, List.length_mergeSort _⟩
  have := List.pairwise_mergeSort (le := fun x y : Int => decide (x ≤ y)) (fun a b c h1 h2 => by simp only [decide_eq_true_eq] at *; omega) (fun a b => by simp only [Bool.or_eq_true, decide_eq_true_eq]; omega) zs
  exact this.imp fun h => by simpa using h
theorem frm_compact (ls : List (List Cd)) : IsFrm ls (Lib.compact (sortL (frmO ls ls.length 0))) := by
  obtain ⟨h1, h2, _⟩ := sortL_facts (frmO ls ls.length 0)
  obtain ⟨h3, h4⟩ := compact_facts _ h1
  exact ⟨h3, fun k => (h4 k).trans ((h2 k).trans (frmO_fin ls k))⟩
theorem frmI_in {x : Cd} (h : frmB x = true) : 0 ≤ frmI x ∧ frmI x < 200 := by
  unfold frmB at h
  simp at h
  unfold frmI
  omega
/-- How the list of the frame places comes back. -/
def FrPost (regs : Int) (ls : List (List Cd)) (w : World) (e : Ending) (w' : World) : Prop :=
  (if progErrW regs ls = 0 then ∃ a c l, e = .returned (.tuple #[.slice a l.length c, .int .i64 0]) ∧ IsFrm ls l ∧ l.length ≤ 1000000 ∧ IntsIn w' a l else e = .returned (.tuple #[.slice none 0 0, .int .i64 (progErrW regs ls)])) ∧ Below w.heap.size w w'
end Go.Proofs.Ytjfpaelmcepidaa.PK
