/- Frames; the law SeatClashes. -/
import Derived.Test.YtjfpaelmcepidaaA7
import Derived.Lib.SlicesCompact
import Derived.Test.YtjfpaelmcepidaaKN
import Derived.Deep.QuietTactic
import Derived.BigQuiet
namespace Go.Proofs.Ytjfpaelmcepidaa.PK
open Go.RowKit Go.Lib Go.Shelf Go.Sort

theorem compact_upto (d : Array Int) (hs : ∀ i j, i ≤ j → j < d.size → d[i]! ≤ d[j]!) : ∀ m, m ≤ d.size → (compactUpTo d m).Pairwise (· < ·) ∧ (∀ x ∈ compactUpTo d m, ∃ j, j < m ∧ d[j]! = x) ∧ ∀ j, j < m → d[j]! ∈ compactUpTo d m
  | 0, _ => by
    refine ⟨?_, ?_, fun j hj => absurd hj (Nat.not_lt_zero _)⟩
    · simp [compactUpTo]
    · intro x hx; simp [compactUpTo] at hx
  | m + 1, h => by
    obtain ⟨h1, h2, h3⟩ := compact_upto d hs m (by omega)
    rw [compactUpTo_succ]
    by_cases hk : keeps d m = true
    · rw [if_pos hk]
      refine ⟨?_, fun x hx => ?_, fun j hj => ?_⟩
      · rw [List.pairwise_append]
        refine ⟨h1, by simp, fun x hx y hy => ?_⟩
        obtain ⟨j, hj, rfl⟩ := h2 x hx
        rw [List.mem_singleton] at hy
        subst hy
        have hm : d[m]! ≠ d[m - 1]! := by
          have h4 : m = 0 ∨ d[m]! ≠ d[m - 1]! := by simpa [keeps] using hk
          rcases h4 with h4 | h4
          · omega
          · exact h4
        have e1 := hs j (m - 1) (by omega) (by omega)
        have e2 := hs (m - 1) m (by omega) (by omega)
        omega
      · rcases List.mem_append.1 hx with hx | hx
        · obtain ⟨j, hj, e⟩ := h2 x hx
          exact ⟨j, by omega, e⟩
        · rw [List.mem_singleton] at hx
          exact ⟨m, by omega, hx.symm⟩
      · by_cases e : j = m
        · subst e; simp
        · exact List.mem_append_left _ (h3 j (by omega))
    · rw [if_neg hk, List.append_nil]
      have hm : 0 < m ∧ d[m]! = d[m - 1]! := by
        have h4 : ¬ (m = 0 ∨ d[m]! ≠ d[m - 1]!) := by simpa [keeps] using hk
        refine ⟨by omega, ?_⟩
        exact Classical.byContradiction fun e => h4 (.inr e)
      refine ⟨h1, fun x hx => ?_, fun j hj => ?_⟩
      · obtain ⟨j, hj, e⟩ := h2 x hx
        exact ⟨j, by omega, e⟩
      · by_cases e : j = m
        · subst e
          rw [hm.2]
          exact h3 _ (by omega)
        · exact h3 j (by omega)
theorem compact_facts (zs : List Int) (hs : zs.Pairwise (· ≤ ·)) : (compact zs).Pairwise (· < ·) ∧ ∀ x, x ∈ compact zs ↔ x ∈ zs := by
  have hget : ∀ j, (h : j < zs.length) → zs.toArray[j]! = zs[j] := fun j h => by rw [getElem!_pos zs.toArray j (by simpa using h)]; simp
  have hs2 : ∀ i j, i ≤ j → j < zs.toArray.size → zs.toArray[i]! ≤ zs.toArray[j]! := fun i j hij hj => by
    have hj2 : j < zs.length := by simpa using hj
    rw [hget i (by omega), hget j hj2]
    by_cases e : i = j
    · subst e; exact Int.le_refl _
    · exact List.pairwise_iff_getElem.1 hs i j (by omega) hj2 (by omega)
  obtain ⟨h1, h2, h3⟩ := compact_upto zs.toArray hs2 zs.length (by simp)
  refine ⟨h1, fun x => ⟨fun hx => ?_, fun hx => ?_⟩⟩
  · obtain ⟨j, hj, rfl⟩ := h2 x hx
    rw [hget j hj]
    exact List.getElem_mem hj
  · obtain ⟨j, hj, rfl⟩ := List.mem_iff_getElem.1 hx
    rw [← hget j hj]
    exact h3 j hj
theorem sorted_ext {a b : List Int} (ha : a.Pairwise (· < ·)) (hb : b.Pairwise (· < ·)) (h : ∀ x, x ∈ a ↔ x ∈ b) : a = b :=
  List.Perm.eq_of_pairwise (le := fun x y : Int => x < y) (fun x y _ _ h1 h2 => by omega) ha hb
    ((List.perm_ext_iff_of_nodup (ha.imp fun h e => by omega) (hb.imp fun h e => by omega)).2 h)
theorem encI_take (xs : List Int) (m : Nat) : encI (xs.take m) = (encI xs).take m := by simp [encI, List.map_take]
theorem owns_take {w : World} {B n m : Nat} {e : TypeId} {a : Option Addr} {cap : Nat} {xs : List Value} (h : w.ownsRow B e 1 (.slice a n cap) n xs) (hm : m ≤ n) : w.ownsRow B e 1 (.slice a m cap) m (xs.take m) := by
  obtain ⟨hl, ⟨e0, h0⟩ | ⟨g, cap', cur, e0, hb, hg, hnc, hmx, hcs, ht⟩⟩ := h
  · cases e0
    obtain rfl : m = 0 := by omega
    exact ⟨by simp, .inl ⟨rfl, rfl⟩⟩
  · cases e0
    refine ⟨by rw [List.length_take]; omega, .inr ⟨g, _, cur, rfl, hb, hg, Nat.le_trans hm hnc, hmx, hcs, ?_⟩⟩
    rw [← ht, List.take_take]
    congr 1; omega
theorem grow_empty (w : World) : grow w #[] = w := by unfold grow; simp
/-- What a row of the call's own holds when a library function has written it. -/
theorem owns_put {w : World} {B g cap q m : Nat} {cur : Array Value} {e : TypeId} {xs ts : List Int} (hB : B ≤ g) (hb : w.heap[g]? = some (.cells cur e (0, 0))) (h1 : xs.length ≤ cap) (h2 : cap ≤ maxLen) (h3 : cur.size = cap * 1) (hl : ts.length = xs.length) (hm : m ≤ xs.length) :
    (putRow (Value.int .i64) (Sort.ahead w q) g 0 ts.toArray).ownsRow B e 1 (.slice (some ⟨g, 0, none⟩) m cap) m (encI (ts.take m)) ∧ Below B w (putRow (Value.int .i64) (Sort.ahead w q) g 0 ts.toArray) := by
  have ho := ownsRow_sortedI (n := q) (os := #[]) hl hB hb h1 h2 h3
  have hg := grownBy_sortedI (w := w) (g := g) (n := q) (os := #[]) ts.toArray
  rw [grow_empty] at ho hg
  rw [encI_take]
  exact ⟨owns_take (n := xs.length) ho hm, ⟨hg.os, hg.tape, hg.output, hg.size, fun k hk => by
    by_cases hks : k < w.heap.size
    · exact hg.block k hks (fun e => by cases e; omega)
    · have : w.heap.size ≤ g := by omega
      exact absurd (lt_of_block hb) (by omega)⟩⟩
/-- Compact of a row of the call's own. -/
theorem compact_any (B : Nat) (v : Value) (xs : List Int) (w : World) (hown : w.ownsRow B 3 1 v xs.length (encI xs)) (hl : xs.length ≤ 10000000) :
    Calls Try.prog 39 #[v] w fun e w' => (∃ v', e = .returned v' ∧ w'.ownsRow B 3 1 v' (Lib.compact xs).length (encI (Lib.compact xs))) ∧ Below B w w' := by
  rcases hown.2 with ⟨rfl, h0⟩ | ⟨g, cap, cur, rfl, hB, hg, hnc, hm, hcs, ht⟩
  · have hx : xs = [] := List.length_eq_zero_iff.1 h0
    subst hx
    exact (Try.slices_Compact_int_empty none 0 w).mono fun e w' ⟨h1, h2⟩ => by
      subst h2
      exact ⟨⟨_, h1, owns_nil _ _ _ _⟩, ⟨rfl, rfl, rfl, Nat.le_refl _, fun _ _ => rfl⟩⟩
  · have hH : Holds (Value.int .i64) w g 0 xs.toArray := holds_of_blockI hg (by rw [Nat.mul_one] at ht; exact ht)
    refine (Try.slices_Compact_int g 0 cap xs w hH (by omega) hnc).mono fun e w' ⟨h1, q, h2⟩ => ?_
    subst h2
    have hlen := Lib.compact_length_le xs
    have ho := owns_put (q := q) (m := (Lib.compact xs).length) (ts := Lib.compact xs ++ List.replicate (xs.length - (Lib.compact xs).length) 0) hB hg hnc hm hcs (by rw [List.length_append, List.length_replicate]; omega) hlen
    rw [List.take_left] at ho
    exact ⟨⟨_, h1, ho.1⟩, ho.2⟩

/-! ### Frame places, plainly -/
def frmB (x : Cd) : Bool := decide (18 ≤ x.op) && decide (x.op ≤ 23) && decide (x.a = -1) && decide (1024 ≤ x.im) && decide (x.im < 1824) && decide ((x.im - 1024) % 4 = 0)
def frmI (x : Cd) : Int := ((x.im - 1024) / 4 : Nat)
def frmL : List Cd → List Int
  | [] => []
  | x :: l => if frmB x then frmI x :: frmL l else frmL l
theorem frmL_app (a b : List Cd) : frmL (a ++ b) = frmL a ++ frmL b := by
  induction a with
  | nil => rfl
  | cons x a ih =>
    rw [List.cons_append, frmL, frmL, ih]
    split <;> rfl
theorem frmL_len : ∀ l : List Cd, (frmL l).length ≤ l.length
  | [] => Nat.le_refl _
  | x :: l => by
    have := frmL_len l
    unfold frmL
    split <;> simp <;> omega
theorem frmL_mem {k : Int} : ∀ {l : List Cd}, k ∈ frmL l ↔ ∃ x ∈ l, frmB x = true ∧ k = frmI x
  | [] => by simp [frmL]
  | x :: l => by
    have ih := frmL_mem (k := k) (l := l)
    unfold frmL
    split
    · rename_i h
      rw [List.mem_cons, ih]
      constructor
      · rintro (rfl | ⟨y, hy, h1⟩)
        · exact ⟨x, by simp, h, rfl⟩
        · exact ⟨y, by simp [hy], h1⟩
      · rintro ⟨y, hy, h1, h2⟩
        rcases List.mem_cons.1 hy with rfl | hy
        · exact .inl h2
        · exact .inr ⟨y, hy, h1, h2⟩
    · rename_i h
      rw [ih]
      constructor
      · rintro ⟨y, hy, h1⟩; exact ⟨y, by simp [hy], h1⟩
      · rintro ⟨y, hy, h1, h2⟩
        rcases List.mem_cons.1 hy with rfl | hy
        · exact absurd h1 h
        · exact ⟨y, hy, h1, h2⟩
/-- What has been collected ahead of instruction i of block b. -/
def frmO (ls : List (List Cd)) (b i : Nat) : List Int := (ls.take b).flatMap frmL ++ frmL ((atB ls b).take i)
theorem frmO_start (ls : List (List Cd)) : frmO ls 0 0 = [] := by simp [frmO, frmL]
theorem frmO_turn {ls : List (List Cd)} {b : Nat} (h : b < ls.length) : frmO ls b (atB ls b).length = frmO ls (b + 1) 0 := by
  unfold frmO
  rw [List.take_length, List.take_succ_eq_append_getElem h, List.flatMap_append, ← atB_get h]
  simp [frmL]
theorem take_one {l : List Cd} {i : Nat} (h : i < l.length) : l.take (i + 1) = l.take i ++ [atC l i] := by
  rw [List.take_succ_eq_append_getElem h, ← atC_get h]
theorem frmO_skip {ls : List (List Cd)} {b i : Nat} (h : i < (atB ls b).length) (hn : frmB (atC (atB ls b) i) = false) : frmO ls b (i + 1) = frmO ls b i := by
  unfold frmO
  rw [take_one h, frmL_app]
  have : frmL [atC (atB ls b) i] = [] := by unfold frmL; rw [if_neg (by rw [hn]; decide)]; rfl
  rw [this, List.append_nil]
theorem frmO_put {ls : List (List Cd)} {b i : Nat} (h : i < (atB ls b).length) (hn : frmB (atC (atB ls b) i) = true) : frmO ls b (i + 1) = frmO ls b i ++ [frmI (atC (atB ls b) i)] := by
  unfold frmO
  rw [take_one h, frmL_app]
  have : frmL [atC (atB ls b) i] = [frmI (atC (atB ls b) i)] := by unfold frmL; rw [if_pos hn]; rfl
  rw [this, List.append_assoc]
theorem frmO_len {ls : List (List Cd)} {n : Nat} (hn : ∀ k, k < ls.length → (atB ls k).length ≤ n) : ∀ b, b ≤ ls.length → ((ls.take b).flatMap frmL).length ≤ b * n
  | 0, _ => by simp
  | b + 1, h => by
    have ih := frmO_len hn b (by omega)
    rw [List.take_succ_eq_append_getElem (show b < ls.length by omega), List.flatMap_append, List.length_append]
    have h1 := frmL_len (ls[b])
    have h2 := hn b (by omega)
    rw [atB_get (show b < ls.length by omega)] at h2
    simp only [List.flatMap_cons, List.flatMap_nil, List.append_nil]
    rw [Nat.add_mul]; omega
/-- A place of the frame that is used. -/
def FrmIn (ls : List (List Cd)) (k : Int) : Prop := ∃ l ∈ ls, ∃ x ∈ l, frmB x = true ∧ k = frmI x
theorem frmO_fin (ls : List (List Cd)) (k : Int) : k ∈ frmO ls ls.length 0 ↔ FrmIn ls k := by
  unfold frmO FrmIn
  rw [List.take_length, List.take_zero, frmL, List.append_nil, List.mem_flatMap]
  constructor
  · rintro ⟨l, hl, h⟩; exact ⟨l, hl, frmL_mem.1 h⟩
  · rintro ⟨l, hl, h⟩; exact ⟨l, hl, frmL_mem.2 h⟩
structure IsFrm (ls : List (List Cd)) (l : List Int) : Prop where
  sorted : l.Pairwise (· < ·)
  mem : ∀ k, k ∈ l ↔ FrmIn ls k
theorem IsFrm.unique {ls : List (List Cd)} {l m : List Int} (h : IsFrm ls l) (h' : IsFrm ls m) : l = m := sorted_ext h.sorted h'.sorted fun k => (h.mem k).trans (h'.mem k).symm
def sortL (zs : List Int) : List Int := zs.mergeSort fun x y => decide (x ≤ y)
theorem sortL_facts (zs : List Int) : (sortL zs).Pairwise (· ≤ ·) ∧ (∀ x, x ∈ sortL zs ↔ x ∈ zs) ∧ (sortL zs).length = zs.length := by
  refine ⟨?_, fun x => (List.mergeSort_perm _ _).mem_iff, List.length_mergeSort _⟩
  have := List.pairwise_mergeSort (le := fun x y : Int => decide (x ≤ y)) (fun a b c h1 h2 => by simp only [decide_eq_true_eq] at *; omega) (fun a b => by simp only [Bool.or_eq_true, decide_eq_true_eq]; omega) zs
  exact this.imp fun h => by simpa using h
theorem frm_compact (ls : List (List Cd)) : IsFrm ls (Lib.compact (sortL (frmO ls ls.length 0))) := by
  obtain ⟨h1, h2, _⟩ := sortL_facts (frmO ls ls.length 0)
  obtain ⟨h3, h4⟩ := compact_facts _ h1
  exact ⟨h3, fun k => (h4 k).trans ((h2 k).trans (frmO_fin ls k))⟩
theorem frmI_in {x : Cd} (h : frmB x = true) : 0 ≤ frmI x ∧ frmI x < 200 := by
  unfold frmB at h
  simp at h
  unfold frmI
  omega
/-- How the list of the frame places comes back. -/
def FrPost (regs : Int) (ls : List (List Cd)) (w : World) (e : Ending) (w' : World) : Prop :=
  (if progErrW regs ls = 0 then ∃ a c l, e = .returned (.tuple #[.slice a l.length c, .int .i64 0]) ∧ IsFrm ls l ∧ l.length ≤ 1000000 ∧ IntsIn w' a l else e = .returned (.tuple #[.slice none 0 0, .int .i64 (progErrW regs ls)])) ∧ Below w.heap.size w w'
end Go.Proofs.Ytjfpaelmcepidaa.PK
namespace Go.Proofs.Ytjfpaelmcepidaa.PK
open Go.RowKit Go.Sort

set_option maxRecDepth 100000 in
set_option maxHeartbeats 4000000 in
theorem sFrame_any (regs : Int) (ls : List (List Cd)) (bl : Option Addr) (cap : Nat) (w : World) (hl : ls.length ≤ 9223372036854775807) (hlm : ∀ k, k < ls.length → (atB ls k).length ≤ 60) (hll : ls.length ≤ 30) (hin : BlkIn w bl ls) :
    Calls Try.prog 15 #[.agg #[.int .i64 regs, .slice bl ls.length cap]] w (FrPost regs ls w) := by
  have HV := Lib.hid (fun u (h : BlkIn u bl ls) => ValidateW_any regs ls bl cap u h hl (fun k hk => by have := hlm k hk; omega))
  have HI := Lib.hid hin
  have HLm := Lib.hid hlm
  have h0 : (w.alloc (.cells #[.int .i64 regs, .slice bl ls.length cap] 24)).cell? ⟨w.heap.size, 0, none⟩ = some (.int .i64 regs) := by simp [go_sem]
  have h1 : (w.alloc (.cells #[.int .i64 regs, .slice bl ls.length cap] 24)).cell? ⟨w.heap.size, 1, none⟩ = some (.slice bl ls.length cap) := by simp [go_sem]
  have HB0 : Hid (Below w.heap.size w (w.alloc (.cells #[.int .i64 regs, .slice bl ls.length cap] 24))) := Lib.hid ((Below.refl _ _).alloc (Nat.le_refl _) _)
  have HLen := Lib.hid (frmO_len hlm)
  clear hin hlm
  by_cases hv : progErrW regs ls = 0
  rotate_left
  · have HP : Hid (∀ w', Below w.heap.size w w' → FrPost regs ls w (.returned (.tuple #[.slice none 0 0, .int .i64 (progErrW regs ls)])) w') := Lib.hid fun w' h => ⟨by rw [if_neg hv], h⟩
    have hne : (progErrW regs ls != 0) = true := bne_iff_ne.2 hv
    generalize progErrW regs ls = pe at *
    clear hv
    go_enter Try.func15, Try.ntmps15
    go_upto_region 1 with (fail)
    generalize w.alloc (.cells #[.int .i64 regs, .slice bl ls.length cap] 24) = w0 at *
    go_wp2_with fail
    refine (HV.out _ (HI.out.below HB0.out)).mono ?_; rintro e w1 ⟨rfl, hb1⟩
    have HF := Lib.hid (HP.out _ (HB0.out.trans (hb1.mono HB0.out.size)))
    clear hb1 h0 h1
    go_wp2_with fail
    go_ret2
    exact HF.out
  have HP : Hid (∀ w' a c l, IsFrm ls l → l.length ≤ 1000000 → IntsIn w' a l → Below w.heap.size w w' → FrPost regs ls w (.returned (.tuple #[.slice a l.length c, .int .i64 0])) w') := Lib.hid fun w' a c l h1 h2 h3 h4 => ⟨by rw [if_pos hv]; exact ⟨a, c, l, rfl, h1, h2, h3⟩, h4⟩
  rw [hv] at HV
  obtain ⟨i0, hi, hz0, hz1, hz2⟩ := info_parts Try.infoInt
  generalize FrPost regs ls w = PP at *
  clear hv
  go_enter Try.func15, Try.ntmps15
  go_upto_region 1 with (fail)
  generalize w.alloc (.cells #[.int .i64 regs, .slice bl ls.length cap] 24) = w0 at *
  go_wp2_with fail
  refine (HV.out _ (HI.out.below HB0.out)).mono ?_; rintro e wo ⟨rfl, hb1⟩
  have HB1 := Lib.hid (HB0.out.trans (hb1.mono HB0.out.size))
  have k0 := keep h0 hb1; have k1 := keep h1 hb1
  have HI1 := Lib.hid (HI.out.below HB1.out)
  clear hb1 h0 h1
  go_wp2_with fail
  go_loopw [5, 18] (fun v i wq => ∃ b : Nat, b ≤ ls.length ∧ i = .int .i64 b ∧ wq.ownsRow wo.heap.size 3 1 v (frmO ls b 0).length (encI (frmO ls b 0)) ∧ Below wo.heap.size wo wq) (fun _ i _ => ls.length - (intOf i).toNat)
  case atStart => exact ⟨0, Nat.zero_le _, rfl, by rw [frmO_start]; exact owns_nil _ _ _ _, Below.refl _ _⟩
  case round =>
    obtain ⟨b, hb, rfl, ho, hbq⟩ := hrel
    have HO := Lib.hid ho; have HBq := Lib.hid hbq
    by_cases hlt : b < ls.length
    rotate_left
    · obtain rfl : b = ls.length := by omega
      have hlen : (frmO ls ls.length 0).length ≤ 2000 := by
        have := HLen.out ls.length (Nat.le_refl _)
        unfold frmO
        rw [List.length_append, List.take_zero]
        have : ls.length * 60 ≤ 30 * 60 := Nat.mul_le_mul_right _ hll
        simp only [frmL, List.length_nil]; omega
      have HSo := Lib.hid (sortI_any _ ho (by omega))
      have HCo := Lib.hid (fun v u h => compact_any wo.heap.size v (sortL (frmO ls ls.length 0)) u h (by rw [(sortL_facts _).2.2]; omega))
      have HFr := Lib.hid (frm_compact ls)
      have HCl : Hid ((Lib.compact (sortL (frmO ls ls.length 0))).length ≤ 1000000) := Lib.hid (by have := Lib.compact_length_le (sortL (frmO ls ls.length 0)); rw [(sortL_facts _).2.2] at this; omega)
      have HSl : Hid ((sortL (frmO ls ls.length 0)).length = (frmO ls ls.length 0).length) := Lib.hid (sortL_facts _).2.2
      have HWB : Hid (w.heap.size ≤ wo.heap.size) := Lib.hid HB1.out.size
      have HGb : Hid (∀ g, Value.ownBlock u5 = some g → wo.heap.size ≤ g) := Lib.hid fun g hg => (owns_block HO.out hg).1
      clear ho hbq hlen
      go_wp2_with fail
      refine HSo.out.mono ?_; rintro e w5 ⟨rfl, ho5, hg5⟩
      have HB5 : Hid (Below wo.heap.size wo w5) := Lib.hid (HBq.out.grown hg5 HBq.out.size HGb.out)
      have HO5 : Hid (w5.ownsRow wo.heap.size 3 1 u5 (sortL (frmO ls ls.length 0)).length (encI (sortL (frmO ls ls.length 0)))) := Lib.hid (by rw [HSl.out]; exact ho5)
      clear ho5 hg5
      go_wp2_with fail
      refine (HCo.out _ _ HO5.out).mono ?_; rintro e w6 ⟨⟨v', rfl, ho6⟩, hb6⟩
      obtain ⟨a, c, rfl, _, hints⟩ := ints_of_owns ho6
      have HF := Lib.hid (HP.out _ a c _ HFr.out HCl.out hints (HB1.out.trans ((HB5.out.trans (hb6)).mono HWB.out)))
      clear ho6 hb6 hints
      go_wp2_with fail
      exact HF.out
    have hbi : (b : Int) < (ls.length : Int) := by omega
    have hlb := HLm.out b hlt
    obtain ⟨cb, coff, ca, cc, hbe, hcell0, hcds⟩ := HI1.out b hlt
    have hcell := keep hcell0 hbq
    have HCds := Lib.hid hcds
    have HTurn := Lib.hid (frmO_turn hlt)
    have hlo := HLen.out b (by omega)
    have hlo2 : b * 60 ≤ 30 * 60 := Nat.mul_le_mul_right _ (by omega)
    subst hbe
    clear ho hbq hcell0 hcds
    go_wp2_with fail
    clear hcell
    go_loopw [5, 24] (fun v i wq => ∃ k : Nat, k ≤ (atB ls b).length ∧ i = .int .i64 k ∧ wq.ownsRow wo.heap.size 3 1 v (frmO ls b k).length (encI (frmO ls b k)) ∧ Below wo.heap.size wo wq) (fun _ i _ => (atB ls b).length - (intOf i).toNat)
    case atStart => exact ⟨0, Nat.zero_le _, rfl, HO.out, HBq.out⟩
    case round =>
      obtain ⟨i, hk, rfl, ho2, hbq2⟩ := hrel
      by_cases hil : i < (atB ls b).length
      rotate_left
      · obtain hie : i = (atB ls b).length := by omega
        rw [hie, HTurn.out] at ho2
        have HO2 := Lib.hid ho2; have HBq2 := Lib.hid hbq2
        subst hie
        clear ho2 hbq2
        go_wp2_with fail
        go_roundw
        case rel => exact ⟨b + 1, by omega, by go_num, HO2.out, HBq2.out⟩
        case measure => simp [intOf]; omega
      have hii : (i : Int) < ((atB ls b).length : Int) := by omega
      obtain ⟨xb, xoff, hxe, hx⟩ := HCds.out i hil
      have hx' : CdAt wr xb (xoff + i * 6) (atC (atB ls b) i) := hx.keep hbq2
      have HSkip := Lib.hid (frmO_skip hil)
      have HPut := Lib.hid (frmO_put hil)
      have hfl : (frmO ls b i).length ≤ 3000 := by
        unfold frmO
        rw [List.length_append]
        have h1 := frmL_len ((atB ls b).take i)
        have h2 : ((atB ls b).take i).length ≤ i := List.length_take_le _ _
        omega
      have HO2 := Lib.hid ho2; have HBq2 := Lib.hid hbq2
      subst hxe
      generalize atC (atB ls b) i = x at *
      generalize (atB ls b).length = m at *
      clear ho2 hbq2 hx
      obtain ⟨x0, x1, x2, x3, x4, x5⟩ := hx'
      go_upto_region 11 with (fail)
      have HOx := Lib.hid (HO2.out.alloc (.cells #[.int .i64 x.op, .int .i64 x.d, .int .i64 x.a, .int .i64 x.b, .int .u32 x.im, .int .i64 x.to] 68))
      have HBx : Hid (Below wo.heap.size wo (wr.alloc (.cells #[.int .i64 x.op, .int .i64 x.d, .int .i64 x.a, .int .i64 x.b, .int .u32 x.im, .int .i64 x.to] 68))) := Lib.hid (HBq2.out.alloc HBq2.out.size _)
      have hX := cdAt_new wr x 68
      clear x0 x1 x2 x3 x4 x5
      generalize wr.alloc (.cells #[.int .i64 x.op, .int .i64 x.d, .int .i64 x.a, .int .i64 x.b, .int .u32 x.im, .int .i64 x.to] 68) = wx at *
      generalize wr.heap.size = q at *
      obtain ⟨x0, x1, x2, x3, x4, x5⟩ := hX
      simp only [Nat.zero_add] at x1 x2 x3 x4 x5
      by_cases h1 : x.op < 18
      · have HK := Lib.hid (HSkip.out (by unfold frmB; simp; omega))
        clear HSkip HPut
        go_wp2_with fail
        go_roundw
        case rel => exact ⟨i + 1, by omega, by go_num, by rw [HK.out]; exact HOx.out, HBx.out⟩
        case measure => simp [intOf]; omega
      by_cases h2 : 23 < x.op
      · have HK := Lib.hid (HSkip.out (by unfold frmB; simp; omega))
        clear HSkip HPut
        go_wp2_with fail
        go_roundw
        case rel => exact ⟨i + 1, by omega, by go_num, by rw [HK.out]; exact HOx.out, HBx.out⟩
        case measure => simp [intOf]; omega
      by_cases h3 : ¬ x.a = -1
      · have g3 : (x.a != -1) = true := by simp [h3]
        have HK := Lib.hid (HSkip.out (by unfold frmB; simp [h3]))
        clear HSkip HPut
        go_wp2_with fail
        go_roundw
        case rel => exact ⟨i + 1, by omega, by go_num, by rw [HK.out]; exact HOx.out, HBx.out⟩
        case measure => simp [intOf]; omega
      have h3 : x.a = -1 := Classical.byContradiction h3
      have g3 : (x.a != -1) = false := by simp [h3]
      by_cases h4 : (x.im : Int) < 1024
      · have HK := Lib.hid (HSkip.out (by unfold frmB; simp; omega))
        clear HSkip HPut
        go_wp2_with fail
        go_roundw
        case rel => exact ⟨i + 1, by omega, by go_num, by rw [HK.out]; exact HOx.out, HBx.out⟩
        case measure => simp [intOf]; omega
      by_cases h5 : 1824 ≤ (x.im : Int)
      · have HK := Lib.hid (HSkip.out (by unfold frmB; simp; omega))
        clear HSkip HPut
        go_wp2_with fail
        go_roundw
        case rel => exact ⟨i + 1, by omega, by go_num, by rw [HK.out]; exact HOx.out, HBx.out⟩
        case measure => simp [intOf]; omega
      obtain ⟨rr, hrr⟩ : ∃ rr : Nat, ((x.im : Int) - 1024) % 4 = (rr : Int) := ⟨(x.im - 1024) % 4, by omega⟩
      obtain ⟨qq, hqq⟩ : ∃ qq : Nat, ((x.im : Int) - 1024) / 4 = (qq : Int) := ⟨(x.im - 1024) / 4, by omega⟩
      by_cases h6 : rr = 0
      rotate_left
      · have g6 : ((rr : Int) != 0) = true := by simp [h6]
        have HK := Lib.hid (HSkip.out (by unfold frmB; simp; omega))
        clear HSkip HPut
        go_wp2_with fail
        go_roundw
        case rel => exact ⟨i + 1, by omega, by go_num, by rw [HK.out]; exact HOx.out, HBx.out⟩
        case measure => simp [intOf]; omega
      have g6 : ((rr : Int) != 0) = false := by simp [h6]
      have HK := Lib.hid (HPut.out (by unfold frmB; simp; omega))
      have HQ : Hid (frmI x = (qq : Int)) := Lib.hid (by unfold frmI; omega)
      obtain ⟨a0, c0, rfl⟩ := owns_shape HOx.out
      have hzx := HBx.out.size
      clear HSkip HPut h6
      go_wp2_with (at_builtin; refine wpList_append_own _ rfl _ _ 43 rfl wo.heap.size 3 i0 (.int .i64 0) 1 8 Try.underlying43 hi hz0 hz1 hz2 rfl (by decide) _ _ _ rfl (HOx.out.alloc _) ⟨wx.heap.size, 0, none⟩ 1 1 [.int .i64 (qq : Int)] rfl rfl (cell_one_at _ _ _) (one_int _) (by unfold maxLen; omega) (by omega) (by simp; omega) ?_; intro v' w5 hown5 hgrow _)
      have HO5 : Hid (w5.ownsRow wo.heap.size 3 1 v' (frmO ls b (i + 1)).length (encI (frmO ls b (i + 1)))) := Lib.hid (by rw [HK.out, HQ.out, encI_snoc]; simpa using hown5)
      have HB5 : Hid (Below wo.heap.size wo w5) := Lib.hid ((HBx.out.alloc HBx.out.size _).grown hgrow (by have := HBx.out.size; simp; omega) (fun g hg => (owns_block HOx.out hg).1))
      clear hown5 hgrow
      go_roundw
      case rel => exact ⟨i + 1, by omega, by go_num, HO5.out, HB5.out⟩
      case measure => simp [intOf]; omega
/-- Whether an instruction uses place k. -/
def hitF (k : Nat) (x : Cd) : Bool := frmB x && decide (frmI x = k)
theorem hitF_is {k : Nat} (hk : k < 200) (x : Cd) : hitF k x = (decide (18 ≤ x.op) && decide (x.op ≤ 23) && decide (x.a = -1) && decide ((x.im : Int) = 1024 + 4 * k)) := by
  unfold hitF frmB frmI
  by_cases h : 1024 ≤ x.im ∧ x.im < 1824 ∧ (x.im - 1024) % 4 = 0 ∧ (((x.im - 1024) / 4 : Nat) : Int) = k
  · have : (x.im : Int) = 1024 + 4 * k := by omega
    rw [decide_eq_true h.1, decide_eq_true h.2.1, decide_eq_true h.2.2.1, decide_eq_true h.2.2.2, decide_eq_true this]; simp
  · have h2 : ¬ (x.im : Int) = 1024 + 4 * k := by omega
    rw [decide_eq_false h2, Bool.and_false]
    by_cases a : 1024 ≤ x.im
    · by_cases b : x.im < 1824
      · by_cases c : (x.im - 1024) % 4 = 0
        · have d : ¬ (((x.im - 1024) / 4 : Nat) : Int) = k := fun d => h ⟨a, b, c, d⟩
          rw [decide_eq_false d, Bool.and_false]
        · rw [decide_eq_false c]; simp
      · rw [decide_eq_false b]; simp
    · rw [decide_eq_false a]; simp
/-- Whether place k has been used ahead of instruction i of block b. -/
def useF (ls : List (List Cd)) (k b i : Nat) : Bool := (ls.take b).any (fun l => l.any (hitF k)) || ((atB ls b).take i).any (hitF k)
theorem useF_start (ls : List (List Cd)) (k : Nat) : useF ls k 0 0 = false := by simp [useF]
theorem useF_turn {ls : List (List Cd)} {k b : Nat} (h : b < ls.length) : useF ls k b (atB ls b).length = useF ls k (b + 1) 0 := by
  unfold useF
  rw [List.take_length, List.take_succ_eq_append_getElem h, List.any_append, ← atB_get h]
  simp
theorem useF_next {ls : List (List Cd)} {k b i : Nat} (h : i < (atB ls b).length) : useF ls k b (i + 1) = (useF ls k b i || hitF k (atC (atB ls b) i)) := by
  unfold useF
  rw [take_one h, List.any_append, Bool.or_assoc]
  simp
theorem useF_fin {ls : List (List Cd)} {k : Nat} : useF ls k ls.length 0 = true ↔ FrmIn ls k := by
  unfold useF FrmIn hitF
  rw [List.take_length]
  simp
  constructor
  · rintro ⟨l, hl, x, hx, h1, h2⟩; exact ⟨l, hl, x, hx, h1, h2.symm⟩
  · rintro ⟨l, hl, x, hx, h1, h2⟩; exact ⟨l, hl, x, hx, h1, h2.symm⟩
/-- The places below k. -/
structure UptoF (ls : List (List Cd)) (k : Int) (l : List Int) : Prop where
  sorted : l.Pairwise (· < ·)
  mem : ∀ j, j ∈ l ↔ FrmIn ls j ∧ j < k
theorem FrmIn.rng {ls : List (List Cd)} {k : Int} (h : FrmIn ls k) : 0 ≤ k ∧ k < 200 := by
  obtain ⟨_, _, x, _, h, rfl⟩ := h
  exact frmI_in h
theorem UptoF.start (ls : List (List Cd)) : UptoF ls 0 [] := ⟨List.Pairwise.nil, fun j => ⟨fun h => (by cases h), fun ⟨h, h1⟩ => (by have := h.rng; omega)⟩⟩
theorem UptoF.skip {ls : List (List Cd)} {k : Int} {l : List Int} (h : UptoF ls k l) (hn : ¬ FrmIn ls k) : UptoF ls (k + 1) l := ⟨h.sorted, fun j => (h.mem j).trans ⟨fun ⟨h1, h2⟩ => ⟨h1, by omega⟩, fun ⟨h1, h2⟩ => ⟨h1, by
  by_cases e : j = k
  · subst e; exact absurd h1 hn
  · omega⟩⟩⟩
theorem UptoF.put {ls : List (List Cd)} {k : Int} {l : List Int} (h : UptoF ls k l) (hn : FrmIn ls k) : UptoF ls (k + 1) (l ++ [k]) := by
  refine ⟨List.pairwise_append.2 ⟨h.sorted, List.pairwise_singleton _ _, fun p hp q hq => ?_⟩, fun j => ?_⟩
  · obtain rfl : q = k := by simpa using hq
    exact ((h.mem p).1 hp).2
  · rw [List.mem_append, List.mem_singleton, h.mem]
    constructor
    · rintro (⟨h1, h2⟩ | rfl)
      · exact ⟨h1, by omega⟩
      · exact ⟨hn, by omega⟩
    · rintro ⟨h1, h2⟩
      by_cases e : j = k
      · exact .inr e
      · exact .inl ⟨h1, by omega⟩
theorem UptoF.fin {ls : List (List Cd)} {l : List Int} (h : UptoF ls 200 l) : IsFrm ls l := ⟨h.sorted, fun k => (h.mem k).trans ⟨fun h => h.1, fun h => ⟨h, h.rng.2⟩⟩⟩
theorem UptoF.few {ls : List (List Cd)} {k : Int} {l : List Int} (h : UptoF ls k l) : l.length ≤ 1000 := by
  have hn : l.Nodup := h.sorted.imp fun h => by omega
  have := nodup_le hn (N := allI) fun p hp => allI_mem p (by
    have h1 := ((h.mem p).1 hp).1.rng
    unfold KV; omega)
  rwa [allI_thousand] at this
set_option maxRecDepth 100000 in
set_option maxHeartbeats 4000000 in
theorem rFrame_any (regs : Int) (ls : List (List Cd)) (bl : Option Addr) (cap : Nat) (w : World) (hl : ls.length ≤ 9223372036854775807) (hlm : ∀ k, k < ls.length → (atB ls k).length ≤ 60) (hll : ls.length ≤ 30) (him : ∀ k i, (atC (atB ls k) i).im < 4294967296) (hin : BlkIn w bl ls) :
    Calls Try.prog 16 #[.agg #[.int .i64 regs, .slice bl ls.length cap]] w (FrPost regs ls w) := by
  have HV := Lib.hid (fun u (h : BlkIn u bl ls) => rValidateW_any regs ls bl cap u h (by omega) (fun k hk => by have := hlm k hk; omega))
  have HI := Lib.hid hin
  have HLm := Lib.hid hlm
  have HIm := Lib.hid him
  have h0 : (w.alloc (.cells #[.int .i64 regs, .slice bl ls.length cap] 24)).cell? ⟨w.heap.size, 0, none⟩ = some (.int .i64 regs) := by simp [go_sem]
  have h1 : (w.alloc (.cells #[.int .i64 regs, .slice bl ls.length cap] 24)).cell? ⟨w.heap.size, 1, none⟩ = some (.slice bl ls.length cap) := by simp [go_sem]
  have HB0 : Hid (Below w.heap.size w (w.alloc (.cells #[.int .i64 regs, .slice bl ls.length cap] 24))) := Lib.hid ((Below.refl _ _).alloc (Nat.le_refl _) _)
  clear hin hlm him
  by_cases hv : progErrW regs ls = 0
  rotate_left
  · have HP : Hid (∀ w', Below w.heap.size w w' → FrPost regs ls w (.returned (.tuple #[.slice none 0 0, .int .i64 (progErrW regs ls)])) w') := Lib.hid fun w' h => ⟨by rw [if_neg hv], h⟩
    have hne : (progErrW regs ls != 0) = true := bne_iff_ne.2 hv
    generalize progErrW regs ls = pe at *
    clear hv
    go_enter Try.func16, Try.ntmps16
    go_upto_region 1 with (fail)
    generalize w.alloc (.cells #[.int .i64 regs, .slice bl ls.length cap] 24) = w0 at *
    go_wp2_with fail
    refine (HV.out _ (HI.out.below HB0.out)).mono ?_; rintro e w1 ⟨rfl, hb1⟩
    have HF := Lib.hid (HP.out _ (HB0.out.trans (hb1.mono HB0.out.size)))
    clear hb1 h0 h1
    go_wp2_with fail
    go_ret2
    exact HF.out
  have HP : Hid (∀ w' a c l, IsFrm ls l → l.length ≤ 1000000 → IntsIn w' a l → Below w.heap.size w w' → FrPost regs ls w (.returned (.tuple #[.slice a l.length c, .int .i64 0])) w') := Lib.hid fun w' a c l h1 h2 h3 h4 => ⟨by rw [if_pos hv]; exact ⟨a, c, l, rfl, h1, h2, h3⟩, h4⟩
  rw [hv] at HV
  obtain ⟨i0, hi, hz0, hz1, hz2⟩ := info_parts Try.infoInt
  generalize FrPost regs ls w = PP at *
  clear hv
  go_enter Try.func16, Try.ntmps16
  go_upto_region 1 with (fail)
  generalize w.alloc (.cells #[.int .i64 regs, .slice bl ls.length cap] 24) = w0 at *
  go_wp2_with fail
  refine (HV.out _ (HI.out.below HB0.out)).mono ?_; rintro e wo ⟨rfl, hb1⟩
  have HB1 := Lib.hid (HB0.out.trans (hb1.mono HB0.out.size))
  have k0 := keep h0 hb1; have k1 := keep h1 hb1
  have HI1 := Lib.hid (HI.out.below HB1.out)
  clear hb1 h0 h1
  go_wp2_with fail
  go_loopw [5, 6] (fun v i wq => ∃ (k : Nat) (l : List Int), k ≤ 200 ∧ i = .int .i64 k ∧ UptoF ls k l ∧ wq.ownsRow wo.heap.size 3 1 v l.length (encI l) ∧ Below wo.heap.size wo wq) (fun _ i _ => 200 - (intOf i).toNat)
  case atStart => exact ⟨0, [], Nat.zero_le _, rfl, UptoF.start ls, owns_nil _ _ _ _, Below.refl _ _⟩
  case round =>
    obtain ⟨k, l, hk, rfl, hup, ho, hbq⟩ := hrel
    have HO := Lib.hid ho; have HBq := Lib.hid hbq; have HUp := Lib.hid hup
    have hfew := hup.few
    clear hup ho hbq
    by_cases hlt : k < 200
    rotate_left
    · obtain rfl : k = 200 := by omega
      obtain ⟨a, c, rfl, _, hints⟩ := ints_of_owns HO.out
      have HWB : Hid (w.heap.size ≤ wo.heap.size) := Lib.hid HB1.out.size
      have HF := Lib.hid (HP.out _ a c _ HUp.out.fin (by omega) hints (HB1.out.trans (HBq.out.mono HWB.out)))
      clear hints
      go_wp2_with fail
      exact HF.out
    have hki : (k : Int) < 200 := by omega
    go_wp2_with fail
    go_loopw [7, 8] (fun v i wq => ∃ b : Nat, b ≤ ls.length ∧ i = .int .i64 b ∧ v = .bool (useF ls k b 0) ∧ Below wr.heap.size wr wq) (fun _ i _ => ls.length - (intOf i).toNat)
    case atStart => exact ⟨0, Nat.zero_le _, rfl, by rw [useF_start], Below.refl _ _⟩
    case round =>
      obtain ⟨b, hb, rfl, rfl, hb5⟩ := hrel
      have HB5 := Lib.hid hb5
      have p1 := keep k1 (HBq.out.trans (hb5.mono HBq.out.size))
      by_cases hblt : b < ls.length
      rotate_left
      · obtain rfl : b = ls.length := by omega
        have HO6 := Lib.hid (owns_below HO.out hb5)
        have HB6 := Lib.hid (HBq.out.trans (hb5.mono HBq.out.size))
        have HFi := Lib.hid (useF_fin (ls := ls) (k := k))
        clear hb5
        cases hu : useF ls k ls.length 0
        · have HUp2 := Lib.hid (HUp.out.skip (fun h => by have := HFi.out.2 h; rw [hu] at this; cases this))
          clear HFi hu
          go_wp2_with fail
          go_roundw
          case rel => exact ⟨k + 1, l, by omega, by go_num, HUp2.out, HO6.out, HB6.out⟩
          case measure => simp [intOf]; omega
        · have HUp2 := Lib.hid (HUp.out.put (HFi.out.1 hu))
          obtain ⟨a0, c0, rfl⟩ := owns_shape HO6.out
          clear HFi hu
          go_wp2_with (at_builtin; refine wpList_append_own _ rfl _ _ 43 rfl wo.heap.size 3 i0 (.int .i64 0) 1 8 Try.underlying43 hi hz0 hz1 hz2 rfl (by decide) _ _ _ rfl (HO6.out.alloc _) ⟨wr.heap.size, 0, none⟩ 1 1 [.int .i64 (k : Int)] rfl rfl (cell_one_at _ _ _) (one_int _) (by unfold maxLen; omega) (by omega) (by have := HB6.out.size; simp; omega) ?_; intro v' w5 hown5 hgrow _)
          have HO7 : Hid (w5.ownsRow wo.heap.size 3 1 v' (l ++ [(k : Int)]).length (encI (l ++ [(k : Int)]))) := Lib.hid (by rw [encI_snoc]; simpa using hown5)
          have HB7 : Hid (Below wo.heap.size wo w5) := Lib.hid ((HB6.out.alloc HB6.out.size _).grown hgrow (by have := HB6.out.size; simp; omega) (fun g hg => (owns_block HO6.out hg).1))
          clear hown5 hgrow
          go_roundw
          case rel => exact ⟨k + 1, _, by omega, by go_num, HUp2.out, HO7.out, HB7.out⟩
          case measure => simp [intOf]; omega
      have hbi : (b : Int) < (ls.length : Int) := by omega
      have hlb := HLm.out b hblt
      obtain ⟨wm, hwm⟩ : ∃ wm : World, wm = wr := ⟨_, rfl⟩
      have HWm := Lib.hid hwm
      have HTurn := Lib.hid (useF_turn (k := k) hblt)
      obtain ⟨cb, coff, ca, cc, hbe, hcell0, hcds⟩ := HI1.out b hblt
      have HCell0 := Lib.hid hcell0; have HCds := Lib.hid hcds
      subst hbe
      clear hb5 hcell0 hcds hwm
      go_wp2_with fail
      go_loopw [7, 9] (fun v i wq => ∃ j : Nat, j ≤ (atB ls b).length ∧ i = .int .i64 j ∧ v = .bool (useF ls k b j) ∧ Below wm.heap.size wm wq) (fun _ i _ => (atB ls b).length - (intOf i).toNat)
      case atStart => exact ⟨0, Nat.zero_le _, rfl, rfl, by rw [HWm.out]; exact Below.refl _ _⟩
      case round =>
        obtain ⟨j, hj, rfl, rfl, hbj⟩ := hrel
        have hB5 := HB5.out
        rw [← HWm.out] at hB5
        have HBj := Lib.hid (hB5.trans (hbj.mono hB5.size))
        have HBw := Lib.hid (HBq.out.trans (HBj.out.mono HBq.out.size))
        by_cases hjl : j < (atB ls b).length
        rotate_left
        · obtain hje : j = (atB ls b).length := by omega
          have HT2 : Hid (useF ls k b j = useF ls k (b + 1) 0) := Lib.hid (by rw [hje]; exact HTurn.out)
          have p2 := keep k1 HBw.out; have pc := keep HCell0.out HBw.out
          have hji : ¬ (j : Int) < ((atB ls b).length : Int) := by omega
          clear hbj hB5 hje
          go_wp2_with fail
          go_roundw
          case rel => exact ⟨b + 1, by omega, by go_num, by rw [HT2.out], HBj.out⟩
          case measure => simp [intOf]; omega
        have hji : (j : Int) < ((atB ls b).length : Int) := by omega
        have p2 := keep k1 HBw.out; have pc := keep HCell0.out HBw.out
        obtain ⟨xb, xoff, hxe, hx⟩ := HCds.out j hjl
        have hx' : CdAt wr xb (xoff + j * 6) (atC (atB ls b) j) := hx.keep HBw.out
        have HN := Lib.hid (useF_next (k := k) hjl)
        have HHit := Lib.hid (hitF_is hlt (atC (atB ls b) j))
        have HBj2 := Lib.hid hbj
        have him := HIm.out b j
        subst hxe
        generalize atC (atB ls b) j = x at *
        generalize (atB ls b).length = m at *
        clear hbj hB5 hx
        obtain ⟨x0, x1, x2, x3, x4, x5⟩ := hx'
        go_upto_region 16 with (fail)
        have HBx : Hid (Below wm.heap.size wm (wr.alloc (.cells #[.int .i64 x.op, .int .i64 x.d, .int .i64 x.a, .int .i64 x.b, .int .u32 x.im, .int .i64 x.to] 68))) := Lib.hid (HBj2.out.alloc HBj2.out.size _)
        have hX := cdAt_new wr x 68
        clear x0 x1 x2 x3 x4 x5 p1 p2 pc
        generalize wr.alloc (.cells #[.int .i64 x.op, .int .i64 x.d, .int .i64 x.a, .int .i64 x.b, .int .u32 x.im, .int .i64 x.to] 68) = wx at *
        generalize wr.heap.size = q at *
        obtain ⟨x0, x1, x2, x3, x4, x5⟩ := hX
        simp only [Nat.zero_add] at x1 x2 x3 x4 x5
        have him2 : (x.im : Int) < 4294967296 := by omega
        clear him
        by_cases h1 : 18 ≤ x.op
        rotate_left
        · have HK : Hid (useF ls k b (j + 1) = useF ls k b j) := Lib.hid (by rw [HN.out, HHit.out, decide_eq_false h1]; simp)
          go_wp2_with fail
          go_roundw
          case rel => exact ⟨j + 1, by omega, by go_num, by rw [HK.out], HBx.out⟩
          case measure => simp [intOf]; omega
        by_cases h2 : x.op ≤ 23
        rotate_left
        · have HK : Hid (useF ls k b (j + 1) = useF ls k b j) := Lib.hid (by rw [HN.out, HHit.out, decide_eq_false h2]; simp)
          go_wp2_with fail
          go_roundw
          case rel => exact ⟨j + 1, by omega, by go_num, by rw [HK.out], HBx.out⟩
          case measure => simp [intOf]; omega
        by_cases h3 : x.a = -1
        rotate_left
        · have g3 : (x.a == -1) = false := by simp [h3]
          have HK : Hid (useF ls k b (j + 1) = useF ls k b j) := Lib.hid (by rw [HN.out, HHit.out, decide_eq_false h3]; simp)
          go_wp2_with fail
          go_roundw
          case rel => exact ⟨j + 1, by omega, by go_num, by rw [HK.out], HBx.out⟩
          case measure => simp [intOf]; omega
        have g3 : (x.a == -1) = true := by simp [h3]
        obtain ⟨z, hz⟩ : ∃ z : Nat, 1024 + 4 * (k : Int) = (z : Int) := ⟨1024 + 4 * k, by omega⟩
        have HZ := Lib.hid hz
        by_cases h4 : (x.im : Int) = 1024 + 4 * k
        rotate_left
        · have g4 : (x.im == z) = false := by rw [beq_eq_false_iff_ne]; omega
          have g5 : ((x.im : Int) == (z : Int)) = false := by rw [beq_eq_false_iff_ne]; omega
          have HK : Hid (useF ls k b (j + 1) = useF ls k b j) := Lib.hid (by rw [HN.out, HHit.out, decide_eq_false h4]; simp)
          go_wp2_with fail
          go_roundw
          case rel => exact ⟨j + 1, by omega, by go_num, by rw [HK.out], HBx.out⟩
          case measure => simp [intOf]; omega
        have g4 : (x.im == z) = true := by rw [beq_iff_eq]; omega
        have g5 : ((x.im : Int) == (z : Int)) = true := by rw [beq_iff_eq]; omega
        have HK : Hid (useF ls k b (j + 1) = true) := Lib.hid (by rw [HN.out, HHit.out, decide_eq_true h1, decide_eq_true h2, decide_eq_true h3, decide_eq_true h4]; simp)
        clear h4
        go_wp2_with fail
        go_roundw
        case rel => exact ⟨j + 1, by omega, by go_num, by rw [HK.out], HBx.out⟩
        case measure => simp [intOf]; omega
end Go.Proofs.Ytjfpaelmcepidaa.PK
namespace Go.Proofs.Ytjfpaelmcepidaa.PK
open Go.RowKit

set_option maxRecDepth 100000 in
set_option maxHeartbeats 1000000 in
theorem samePairs_self (l : StrL) (a a' : Option Addr) (cap cap' : Nat) (w : World) (hin : StrIn w a l) (hin' : StrIn w a' l) (hl : l.length ≤ 1000000) :
    Calls Try.prog 17 #[.slice a l.length cap, .slice a' l.length cap'] w fun e w' => e = .returned (.bool true) ∧ Below w.heap.size w w' := by
  have HI := Lib.hid hin; have HI' := Lib.hid hin'
  clear hin hin'
  have hn : ((l.length : Int) != (l.length : Int)) = false := by simp
  go_enter Try.func17, Try.ntmps17
  go_wp2_with fail
  go_loopw [5] (fun i wr => ∃ k : Nat, k ≤ l.length ∧ i = .int .i64 k ∧ Below w.heap.size w wr) (fun i _ => l.length - (intOf i).toNat)
  case atStart => exact ⟨0, Nat.zero_le _, rfl, Below.refl _ _⟩
  case round =>
    obtain ⟨k, hk, rfl, hb⟩ := hrel
    have HB := Lib.hid hb
    by_cases hlt : k < l.length
    · have hki : (k : Int) < l.length := by omega
      have hk0 : (0 : Int) ≤ (k : Int) := by omega
      obtain ⟨b1, o1, rfl, c1, c2⟩ := HI.out.below hb k hlt
      obtain ⟨b2, o2, rfl, d1, d2⟩ := HI'.out.below hb k hlt
      clear hb
      generalize (atH l k).1 = x at *
      generalize (atH l k).2 = y at *
      have hneq := neqH_run x y
      have hgd := fun op a b => guardH op a b x y x y
      go_wp2_with fail
      go_quiet (fail)
      go_wp2_with fail
      go_roundw
      case rel => exact ⟨k + 1, by omega, by go_num, HB.out.trans (below_drewN (Below.refl _ _) _)⟩
      case measure => simp [intOf]; omega
    · have hki : ¬ (k : Int) < l.length := by omega
      clear hb
      go_wp2_with fail
      go_ret
      exact ⟨rfl, HB.out⟩
set_option maxRecDepth 100000 in
set_option maxHeartbeats 1000000 in
theorem same03_any (xs : List Int) (a b : Option Addr) (ca cb : Nat) (w : World) (ha : IntsIn w a xs) (hb : IntsIn w b xs) (hl : xs.length ≤ 1000000) :
    Calls Try.prog 18 #[.slice a xs.length ca, .slice b xs.length cb] w fun e w' => e = .returned (.bool true) ∧ Below w.heap.size w w' := by
  have HA := Lib.hid ha; have HB := Lib.hid hb
  clear ha hb
  go_enter Try.func18, Try.ntmps18
  go_wp2_with fail
  go_loopw [5] (fun i wr => ∃ k : Nat, k ≤ xs.length ∧ i = .int .i64 k ∧ Below w.heap.size w wr) (fun i _ => xs.length - (intOf i).toNat)
  case atStart => exact ⟨0, Nat.zero_le _, rfl, Below.refl _ _⟩
  case round =>
    obtain ⟨k, hk, rfl, hbl⟩ := hrel
    by_cases hlt : k < xs.length
    · obtain ⟨b1, o1, rfl, h1⟩ := HA.out.below hbl k hlt
      obtain ⟨b2, o2, rfl, h2⟩ := HB.out.below hbl k hlt
      have HBl := Lib.hid hbl
      have hki : (k : Int) < (xs.length : Int) := by omega
      clear hbl
      generalize xs.getD k 0 = x at *
      have hb : (x != x) = false := by simp
      go_wp2_with fail
      go_quiet (fail)
      go_wp2_with fail
      go_roundw
      case rel => exact ⟨k + 1, by omega, by go_num, below_drewN HBl.out _⟩
      case measure => simp [intOf]; omega
    · have HBl := Lib.hid hbl
      clear hbl
      go_wp2_with fail
      go_ret
      exact ⟨rfl, HBl.out⟩

set_option maxRecDepth 100000 in
set_option maxHeartbeats 1000000 in
theorem rClash_bad (regs : Int) (ls : List (List Cd)) (L : List (List Int)) (bl : Option Addr) (cap : Nat) (w : World) (hv : progErrW regs ls ≠ 0) (hl : ls.length ≤ 500) (hlm : ∀ k, k < ls.length → (atB ls k).length ≤ 9223372036854775807) (hin : BlkIn w bl ls) :
    Calls Try.prog 14 #[.agg #[.int .i64 regs, .slice bl ls.length cap]] w (ClPost regs ls L w) := by
  have HV := Lib.hid (fun u (h : BlkIn u bl ls) => (rLive_bad regs ls bl cap u h hv hl hlm).mono fun e w' h => (⟨by have := h.1; rwa [if_neg hv] at this, h.2⟩ : e = .returned (.tuple #[.slice none 0 0, .int .i64 (progErrW regs ls)]) ∧ Below u.heap.size u w'))
  have HP : Hid (∀ w', Below w.heap.size w w' → ClPost regs ls L w (.returned (.tuple #[.slice none 0 0, .int .i64 (progErrW regs ls)])) w') := Lib.hid fun w' h => ⟨by rw [if_neg hv], h⟩
  have hne : (progErrW regs ls != 0) = true := bne_iff_ne.2 hv
  have HI := Lib.hid hin
  have h0 : (w.alloc (.cells #[.int .i64 regs, .slice bl ls.length cap] 24)).cell? ⟨w.heap.size, 0, none⟩ = some (.int .i64 regs) := by simp [go_sem]
  have h1 : (w.alloc (.cells #[.int .i64 regs, .slice bl ls.length cap] 24)).cell? ⟨w.heap.size, 1, none⟩ = some (.slice bl ls.length cap) := by simp [go_sem]
  have HB0 : Hid (Below w.heap.size w (w.alloc (.cells #[.int .i64 regs, .slice bl ls.length cap] 24))) := Lib.hid ((Below.refl _ _).alloc (Nat.le_refl _) _)
  generalize progErrW regs ls = pe at *
  clear hin hlm hl hv
  go_enter Try.func14, Try.ntmps14
  go_upto_region 1 with (fail)
  generalize w.alloc (.cells #[.int .i64 regs, .slice bl ls.length cap] 24) = w0 at *
  go_wp2_with fail
  refine (HV.out _ (HI.out.below HB0.out)).mono ?_; rintro e w1 ⟨rfl, hb1⟩
  have HF := Lib.hid (HP.out _ (HB0.out.trans (hb1.mono HB0.out.size)))
  clear hb1 h0 h1
  go_wp2_with fail
  go_ret2
  exact HF.out
theorem rClash_any (regs : Int) (ls : List (List Cd)) (L : List (List Int)) (bl : Option Addr) (cap : Nat) (w : World) (hl : ls.length ≤ 500) (hlm : ∀ k, k < ls.length → (atB ls k).length ≤ 9223372036854775807) (hL : LiveOf ls regs.toNat L) (hin : BlkIn w bl ls) :
    Calls Try.prog 14 #[.agg #[.int .i64 regs, .slice bl ls.length cap]] w (ClPost regs ls L w) := by
  by_cases hv : progErrW regs ls = 0
  · exact rClash_ok regs ls L bl cap w hv hlm hL hin
  · exact rClash_bad regs ls L bl cap w hv hl hlm hin
/-- What both Clash answer. -/
def ClIs (regs : Int) (ls : List (List Cd)) (L : List (List Int)) (l : StrL) : Prop := (progErrW regs ls = 0 → IsClash ls L l) ∧ (progErrW regs ls ≠ 0 → l = [])
theorem ClIs.unique {regs : Int} {ls : List (List Cd)} {L : List (List Int)} {l l' : StrL} (h : ClIs regs ls L l) (h' : ClIs regs ls L l') : l = l' := by
  by_cases h0 : progErrW regs ls = 0
  · exact (h.1 h0).unique (h'.1 h0)
  · rw [h.2 h0, h'.2 h0]
def ClShape (regs : Int) (ls : List (List Cd)) (L : List (List Int)) (w : World) (e : Ending) (w' : World) : Prop :=
  ∃ a c l, e = .returned (.tuple #[.slice a l.length c, .int .i64 (progErrW regs ls)]) ∧ StrIn w' a l ∧ ClIs regs ls L l ∧ l.length ≤ 1000000 ∧ Below w.heap.size w w'
theorem ClPost.shape {regs : Int} {ls : List (List Cd)} {L : List (List Int)} {w w' : World} {e : Ending} (h : ClPost regs ls L w e w') : ClShape regs ls L w e w' := by
  obtain ⟨h1, h2⟩ := h
  by_cases h0 : progErrW regs ls = 0
  · rw [if_pos h0] at h1
    obtain ⟨a, c, l, rfl, hi, hl, hs⟩ := h1
    exact ⟨a, c, l, by rw [h0], hs, ⟨fun _ => hi, fun h => absurd h0 h⟩, hl, h2⟩
  · rw [if_neg h0] at h1
    exact ⟨none, 0, [], h1, fun _ hk => absurd hk (Nat.not_lt_zero _), ⟨fun h => absurd h h0, fun _ => rfl⟩, Nat.zero_le _, h2⟩
def FrIs (regs : Int) (ls : List (List Cd)) (l : List Int) : Prop := (progErrW regs ls = 0 → IsFrm ls l) ∧ (progErrW regs ls ≠ 0 → l = [])
theorem FrIs.unique {regs : Int} {ls : List (List Cd)} {l l' : List Int} (h : FrIs regs ls l) (h' : FrIs regs ls l') : l = l' := by
  by_cases h0 : progErrW regs ls = 0
  · exact (h.1 h0).unique (h'.1 h0)
  · rw [h.2 h0, h'.2 h0]
def FrShape (regs : Int) (ls : List (List Cd)) (w : World) (e : Ending) (w' : World) : Prop :=
  ∃ a c l, e = .returned (.tuple #[.slice a l.length c, .int .i64 (progErrW regs ls)]) ∧ IntsIn w' a l ∧ FrIs regs ls l ∧ l.length ≤ 1000000 ∧ Below w.heap.size w w'
theorem FrPost.shape {regs : Int} {ls : List (List Cd)} {w w' : World} {e : Ending} (h : FrPost regs ls w e w') : FrShape regs ls w e w' := by
  obtain ⟨h1, h2⟩ := h
  by_cases h0 : progErrW regs ls = 0
  · rw [if_pos h0] at h1
    obtain ⟨a, c, l, rfl, hi, hl, hs⟩ := h1
    exact ⟨a, c, l, by rw [h0], hs, ⟨fun _ => hi, fun h => absurd h0 h⟩, hl, h2⟩
  · rw [if_neg h0] at h1
    exact ⟨none, 0, [], h1, fun _ hk => absurd hk (Nat.not_lt_zero _), ⟨fun h => absurd h h0, fun _ => rfl⟩, Nat.zero_le _, h2⟩
/-- What small answers says. -/
def SmPost (ls : List (List Cd)) (w : World) (e : Ending) (w' : World) : Prop := (∃ b : Bool, e = .returned (.bool b) ∧ (b = true → ls.length ≤ 30 ∧ ∀ k, k < ls.length → (atB ls k).length ≤ 60)) ∧ Below w.heap.size w w'
set_option maxRecDepth 100000 in
set_option maxHeartbeats 4000000 in
theorem small_any (regs : Int) (ls : List (List Cd)) (bl : Option Addr) (cap : Nat) (w : World) (hin : BlkIn w bl ls) (hl : ls.length ≤ 9223372036854775807) (hlm : ∀ k, k < ls.length → (atB ls k).length ≤ 9223372036854775807) :
    Calls Try.prog 5 #[.agg #[.int .i64 regs, .slice bl ls.length cap]] w (SmPost ls w) := by
  have HI := Lib.hid hin; have HLm := Lib.hid hlm
  have h0 : (w.alloc (.cells #[.int .i64 regs, .slice bl ls.length cap] 24)).cell? ⟨w.heap.size, 0, none⟩ = some (.int .i64 regs) := by simp [go_sem]
  have h1 : (w.alloc (.cells #[.int .i64 regs, .slice bl ls.length cap] 24)).cell? ⟨w.heap.size, 1, none⟩ = some (.slice bl ls.length cap) := by simp [go_sem]
  have HB0 : Hid (Below w.heap.size w (w.alloc (.cells #[.int .i64 regs, .slice bl ls.length cap] 24))) := Lib.hid ((Below.refl _ _).alloc (Nat.le_refl _) _)
  have HNo : Hid (∀ w', Below w.heap.size w w' → SmPost ls w (.returned (.bool false)) w') := Lib.hid fun w' h => ⟨⟨false, rfl, fun h => (by cases h)⟩, h⟩
  have HYes : Hid (∀ w', ls.length ≤ 30 → (∀ k, k < ls.length → (atB ls k).length ≤ 60) → Below w.heap.size w w' → SmPost ls w (.returned (.bool true)) w') := Lib.hid fun w' h1 h2 h3 => ⟨⟨true, rfl, fun _ => ⟨h1, h2⟩⟩, h3⟩
  clear hin hlm
  generalize SmPost ls w = PP at *
  generalize hn : ls.length = n at *
  have HN := Lib.hid hn; clear hn
  by_cases hr : 40 < regs ∧ regs ≤ 200
  · obtain ⟨hr1, hr2⟩ := hr
    go_enter Try.func5, Try.ntmps5
    go_upto_region 1 with (fail)
    generalize w.alloc (.cells #[.int .i64 regs, .slice bl n cap] 24) = w0 at *
    have HF := Lib.hid (HNo.out _ HB0.out)
    go_wp2_with fail
    exact HF.out
  by_cases hln : 30 < n
  · have hln2 : (30 : Int) < (n : Int) := by omega
    have hr3 : ¬ 40 < regs ∨ 40 < regs ∧ ¬ regs ≤ 200 := by omega
    clear hr
    rcases hr3 with hr1 | ⟨hr1, hr2⟩
    all_goals
      go_enter Try.func5, Try.ntmps5
      go_upto_region 1 with (fail)
      generalize w.alloc (.cells #[.int .i64 regs, .slice bl n cap] 24) = w0 at *
      have HF := Lib.hid (HNo.out _ HB0.out)
      go_wp2_with fail
      exact HF.out
  have hln2 : ¬ (30 : Int) < (n : Int) := by omega
  have hr3 : ¬ 40 < regs ∨ 40 < regs ∧ ¬ regs ≤ 200 := by omega
  clear hr
  rcases hr3 with hr1 | ⟨hr1, hr2⟩
  all_goals
    go_enter Try.func5, Try.ntmps5
    go_upto_region 1 with (fail)
    generalize w.alloc (.cells #[.int .i64 regs, .slice bl n cap] 24) = w0 at *
    go_wp2_with fail
    go_loopw [3] (fun i wr => ∃ k : Nat, k ≤ n ∧ i = .int .i64 k ∧ Hid (∀ j, j < k → (atB ls j).length ≤ 60) ∧ w0 = wr) (fun i _ => n - (intOf i).toNat)
    case atStart => exact ⟨0, Nat.zero_le _, rfl, Lib.hid fun j hj => absurd hj (Nat.not_lt_zero _), rfl⟩
    case round =>
      obtain ⟨k, hk, rfl, HAll, rfl⟩ := hrel
      by_cases hlt : k < n
      rotate_left
      · obtain rfl : k = n := by omega
        have HF := Lib.hid (HYes.out _ (by omega) HAll.out HB0.out)
        go_wp2_with fail
        exact HF.out
      have hki : (k : Int) < (n : Int) := by omega
      obtain ⟨cb, coff, ca, cc, hbe, hcell, _⟩ := (HI.out.below HB0.out) k (by rw [HN.out]; exact hlt)
      have hlk := HLm.out k hlt
      subst hbe
      by_cases h60 : 60 < (atB ls k).length
      · have h61 : (60 : Int) < ((atB ls k).length : Int) := by omega
        have HF := Lib.hid (HNo.out _ HB0.out)
        go_wp2_with fail
        exact HF.out
      · have h61 : ¬ (60 : Int) < ((atB ls k).length : Int) := by omega
        have HA2 : Hid (∀ j, j < k + 1 → (atB ls j).length ≤ 60) := Lib.hid fun j hj => by
          by_cases c : j = k
          · rw [c]; omega
          · exact HAll.out j (by omega)
        go_wp2_with fail
        go_roundw
        case rel => exact ⟨k + 1, by omega, by go_num, HA2, by trivial⟩
        case measure => simp [intOf]; omega
set_option maxRecDepth 100000 in
set_option maxHeartbeats 4000000 in
theorem seatClashes_any (regs : Int) (ls : List (List Cd)) (bl : Option Addr) (cap : Nat) (w : World) (hin : BlkIn w bl ls) (hl : ls.length ≤ 9223372036854775807) (hm : ∀ k, k < ls.length → (atB ls k).length ≤ 9223372036854775807) (him : ∀ k i, (atC (atB ls k) i).im < 4294967296) :
    Calls Try.prog 4 #[.agg #[.int .i64 regs, .slice bl ls.length cap]] w fun e w' => e = .returned (.bool true) ∧ Below w.heap.size w w' := by
  obtain ⟨L, hL⟩ := LiveOf.there ls regs.toNat
  have HS := Lib.hid (fun u (h : BlkIn u bl ls) => small_any regs ls bl cap u h hl hm)
  have HK := Lib.hid Go.Proofs.Ytjfpaelmcepidaa.known_any
  have HA := Lib.hid (fun u (h : BlkIn u bl ls) => (sClash_any regs ls L bl cap u hl hm hL h).mono fun _ _ h => h.shape)
  have HB := Lib.hid (fun (h0 : ls.length ≤ 500) u (h : BlkIn u bl ls) => (rClash_any regs ls L bl cap u h0 hm hL h).mono fun _ _ h => h.shape)
  have HC := Lib.hid (fun (h1 : ls.length ≤ 30) (h2 : ∀ k, k < ls.length → (atB ls k).length ≤ 60) u (h : BlkIn u bl ls) => (sFrame_any regs ls bl cap u hl h2 h1 h).mono fun _ _ h => h.shape)
  have HD := Lib.hid (fun (h1 : ls.length ≤ 30) (h2 : ∀ k, k < ls.length → (atB ls k).length ≤ 60) u (h : BlkIn u bl ls) => (rFrame_any regs ls bl cap u hl h2 h1 him h).mono fun _ _ h => h.shape)
  have HI2 : Hid (∀ W, Below w.heap.size w W → BlkIn W bl ls) := Lib.hid fun W h => hin.below h
  have HUc := Lib.hid (fun l l' => ClIs.unique (regs := regs) (ls := ls) (L := L) (l := l) (l' := l'))
  have HUf := Lib.hid (fun l l' => FrIs.unique (regs := regs) (ls := ls) (l := l) (l' := l'))
  clear hin hl hm him hL
  unfold ClShape at HA HB
  unfold FrShape at HC HD
  unfold SmPost at HS
  generalize progErrW regs ls = pe at *
  generalize ClIs regs ls L = IsC at *
  generalize FrIs regs ls = IsF at *
  go_enter Try.func4, Try.ntmps4
  go_upto_region 1 with (fail)
  generalize hw0 : w.alloc _ = w0
  generalize hq : w.heap.size = q at *
  have hb0 : Below q w w0 := by rw [← hw0, ← hq]; exact (Below.refl _ _).alloc (Nat.le_refl _) _
  have h0 : w0.cell? ⟨q, 0, none⟩ = some (.int .i64 regs) := by subst hw0 hq; simp [go_sem]
  have h1 : w0.cell? ⟨q, 1, none⟩ = some (.slice bl ls.length cap) := by subst hw0 hq; simp [go_sem]
  have HB0 := Lib.hid hb0; have HQ := Lib.hid hq
  have HZ : Hid (q ≤ w0.heap.size) := Lib.hid (by rw [← hq]; exact hb0.size)
  clear hw0 hq hb0
  go_wp2_with fail
  refine (HS.out _ (HI2.out _ HB0.out)).mono ?_; rintro e w1 ⟨⟨lo, rfl, hsm⟩, hb1⟩
  have HB1 := Lib.hid (HB0.out.trans (hb1.mono HZ.out)); have HZ1 : Hid (q ≤ w1.heap.size) := Lib.hid (Nat.le_trans HZ.out hb1.size)
  have k0 := keep h0 hb1; have k1 := keep h1 hb1
  have HSm := Lib.hid hsm
  clear h0 h1 hb1 hsm
  cases lo
  · go_wp2_with fail
    refine (HK.out _).mono ?_; rintro e w2 ⟨rfl, hb2⟩
    go_wp2_with fail
    go_ret
    exact ⟨rfl, by rw [HQ.out]; exact HB1.out.trans (hb2.mono HZ1.out)⟩
  obtain ⟨s1, s2⟩ := HSm.out rfl
  have HB' := Lib.hid (HB.out (by omega)); have HC' := Lib.hid (HC.out s1 s2); have HD' := Lib.hid (HD.out s1 s2)
  clear s2 HB HC HD HSm
  go_wp2_with fail
  refine (HA.out _ (HI2.out _ HB1.out)).mono ?_; rintro e w2 ⟨va, ca, l, rfl, hr2, hL2, hlen2, hb2⟩
  have HB2 := Lib.hid (HB1.out.trans (hb2.mono HZ1.out)); have HZ2 : Hid (q ≤ w2.heap.size) := Lib.hid (Nat.le_trans HZ1.out hb2.size)
  have m0 := keep k0 hb2; have m1 := keep k1 hb2
  have HR2 := Lib.hid hr2; have HL2 := Lib.hid hL2; have HN2 := Lib.hid hlen2
  clear k0 k1 hb2 hr2 hL2 hlen2
  go_wp2_with fail
  refine (HB'.out _ (HI2.out _ HB2.out)).mono ?_; rintro e w3 ⟨vb, cb, l', rfl, hr3, hL3, _, hb3⟩
  obtain rfl : l = l' := HUc.out l l' HL2.out hL3
  have HB3 := Lib.hid (HB2.out.trans (hb3.mono HZ2.out)); have HZ3 : Hid (q ≤ w3.heap.size) := Lib.hid (Nat.le_trans HZ2.out hb3.size)
  have n0 := keep m0 hb3; have n1 := keep m1 hb3
  have HR3 := Lib.hid hr3; have HR23 := Lib.hid (HR2.out.below hb3)
  clear m0 m1 hb3 hr3 hL3
  generalize hll : l.length = ll at *
  have HLl := Lib.hid hll; clear hll
  go_wp2_with fail
  refine (HC'.out _ (HI2.out _ HB3.out)).mono ?_; rintro e w4 ⟨vc, cc, f, rfl, hr4, hL4, hlen4, hb4⟩
  have HB4 := Lib.hid (HB3.out.trans (hb4.mono HZ3.out)); have HZ4 : Hid (q ≤ w4.heap.size) := Lib.hid (Nat.le_trans HZ3.out hb4.size)
  have o0 := keep n0 hb4; have o1 := keep n1 hb4
  have HR4 := Lib.hid hr4; have HL4 := Lib.hid hL4; have HN4 := Lib.hid hlen4
  have HR34 := Lib.hid (HR3.out.below hb4); have HR24 := Lib.hid (HR23.out.below hb4)
  clear n0 n1 hb4 hr4 hL4 hlen4
  go_wp2_with fail
  refine (HD'.out _ (HI2.out _ HB4.out)).mono ?_; rintro e w5 ⟨vd, cd, f', rfl, hr5, hL5, _, hb5⟩
  obtain rfl : f = f' := HUf.out f f' HL4.out hL5
  have HB5 := Lib.hid (HB4.out.trans (hb5.mono HZ4.out)); have HZ5 : Hid (q ≤ w5.heap.size) := Lib.hid (Nat.le_trans HZ4.out hb5.size)
  have HSP := Lib.hid (samePairs_self l va vb ca cb w5 (HR24.out.below hb5) (HR34.out.below hb5) (by rw [HLl.out]; exact HN2.out))
  rw [HLl.out] at HSP
  have HSI := Lib.hid (fun u (hu : Below w5.heap.size w5 u) => same03_any f vc vd cc cd u ((HR4.out.below hb5).below hu) (hr5.below hu) HN4.out)
  have hee : (pe == pe) = true := by simp
  clear hb5 hr5 hL5 o0 o1
  generalize f.length = fl at *
  go_wp2_with fail
  refine HSP.out.mono ?_; rintro e w6 ⟨rfl, hb6⟩
  have HSI2 := Lib.hid (HSI.out _ hb6)
  have HB6 := Lib.hid (HB5.out.trans (hb6.mono HZ5.out)); have HZ6 : Hid (q ≤ w6.heap.size) := Lib.hid (Nat.le_trans HZ5.out hb6.size)
  clear hb6
  go_wp2_with fail
  refine HSI2.out.mono ?_; rintro e w7 ⟨rfl, hb7⟩
  have HB7 := Lib.hid (HB6.out.trans (hb7.mono HZ6.out)); have HZ7 : Hid (q ≤ w7.heap.size) := Lib.hid (Nat.le_trans HZ6.out hb7.size)
  clear hb7
  go_wp2_with fail
  refine (HK.out _).mono ?_; rintro e w8 ⟨rfl, hb8⟩
  go_wp2_with fail
  go_ret
  exact ⟨rfl, by rw [HQ.out]; exact HB7.out.trans (hb8.mono HZ7.out)⟩
end Go.Proofs.Ytjfpaelmcepidaa.PK
