/- Pure literals plainly; what slices.Compact does to what is sorted. -/
import Derived.Test.YtahaoddilejpnaaHS
import Derived.Lib.SlicesCompact
namespace Go.Proofs.Ytahaoddilejpnaa
open Go.Lib

theorem compact_upto (d : Array Int) (hs : ∀ i j, i ≤ j → j < d.size → d[i]! ≤ d[j]!) : ∀ m, m ≤ d.size → (compactUpTo d m).Pairwise (· < ·) ∧ (∀ x ∈ compactUpTo d m, ∃ j, j < m ∧ d[j]! = x) ∧ ∀ j, j < m → d[j]! ∈ compactUpTo d m
  | 0, _ => by
    refine ⟨?_, ?_, fun j hj => absurd hj (Nat.not_lt_zero _)⟩
    · simp [compactUpTo]
    · intro x hx; simp [compactUpTo] at hx
  | m + 1, h => by
    obtain ⟨h1, h2, h3⟩ := compact_upto d hs m (by omega)
    rw [compactUpTo_succ]
    by_cases hk : keeps d m = true
    · rw [if_pos hk]
      refine ⟨?_, fun x hx => ?_, fun j hj => ?_⟩
      · rw [List.pairwise_append]
        refine ⟨h1, by simp, fun x hx y hy => ?_⟩
        obtain ⟨j, hj, rfl⟩ := h2 x hx
        rw [List.mem_singleton] at hy
        subst hy
        have hm : d[m]! ≠ d[m - 1]! := by
          have h4 : m = 0 ∨ d[m]! ≠ d[m - 1]! := by simpa [keeps] using hk
          rcases h4 with h4 | h4
          · omega
          · exact h4
        have e1 := hs j (m - 1) (by omega) (by omega)
        have e2 := hs (m - 1) m (by omega) (by omega)
        omega
      · rcases List.mem_append.1 hx with hx | hx
        · obtain ⟨j, hj, e⟩ := h2 x hx
          exact ⟨j, by omega, e⟩
        · rw [List.mem_singleton] at hx
          exact ⟨m, by omega, hx.symm⟩
      · by_cases e : j = m
        · subst e; simp
        · exact List.mem_append_left _ (h3 j (by omega))
    · rw [if_neg hk, List.append_nil]
      have hm : 0 < m ∧ d[m]! = d[m - 1]! := by
        have h4 : ¬ (m = 0 ∨ d[m]! ≠ d[m - 1]!) := by simpa [keeps] using hk
        refine ⟨by omega, ?_⟩
        exact Classical.byContradiction fun e => h4 (.inr e)
      refine ⟨h1, fun x hx => ?_, fun j hj => ?_⟩
      · obtain ⟨j, hj, e⟩ := h2 x hx
        exact ⟨j, by omega, e⟩
      · by_cases e : j = m
        · subst e
          rw [hm.2]
          exact h3 _ (by omega)
        · exact h3 j (by omega)
theorem compact_facts (zs : List Int) (hs : zs.Pairwise (· ≤ ·)) : (compact zs).Pairwise (· < ·) ∧ ∀ x, x ∈ compact zs ↔ x ∈ zs := by
  have hget : ∀ j, (h : j < zs.length) → zs.toArray[j]! = zs[j] := fun j h => by rw [getElem!_pos zs.toArray j (by simpa using h)]; simp
  have hs2 : ∀ i j, i ≤ j → j < zs.toArray.size → zs.toArray[i]! ≤ zs.toArray[j]! := fun i j hij hj => by
    have hj2 : j < zs.length := by simpa using hj
    rw [hget i (by omega), hget j hj2]
    by_cases e : i = j
    · subst e; exact Int.le_refl _
    · exact List.pairwise_iff_getElem.1 hs i j (by omega) hj2 (by omega)
  obtain ⟨h1, h2, h3⟩ := compact_upto zs.toArray hs2 zs.length (by simp)
  refine ⟨h1, fun x => ⟨fun hx => ?_, fun hx => ?_⟩⟩
  · obtain ⟨j, hj, rfl⟩ := h2 x hx
    rw [hget j hj]
    exact List.getElem_mem hj
  · obtain ⟨j, hj, rfl⟩ := List.mem_iff_getElem.1 hx
    rw [← hget j hj]
    exact h3 j hj
theorem sorted_ext {a b : List Int} (ha : a.Pairwise (· < ·)) (hb : b.Pairwise (· < ·)) (h : ∀ x, x ∈ a ↔ x ∈ b) : a = b :=
  List.Perm.eq_of_pairwise (le := fun x y : Int => x < y) (fun x y _ _ h1 h2 => by omega) ha hb
    ((List.perm_ext_iff_of_nodup (ha.imp fun h e => by omega) (hb.imp fun h e => by omega)).2 h)
def occB (g : List (List Int)) (l : Int) : Bool := g.any fun k => hasB k l
theorem occ_mem {g : List (List Int)} {l : Int} : occB g l = true ↔ l ∈ g.flatten := by
  unfold occB
  rw [List.any_eq_true, List.mem_flatten]
  exact ⟨fun ⟨k, h1, h2⟩ => ⟨k, h1, hasB_mem.1 h2⟩, fun ⟨k, h1, h2⟩ => ⟨k, h1, hasB_mem.2 h2⟩⟩
def pureB (g : List (List Int)) (l : Int) : Bool := l != 0 && occB g l && !occB g (-l)
def span (N : Nat) (i : Nat) : List Int := (List.range i).map fun j : Nat => (j : Int) - (N : Int)
def pureL (N : Nat) (g : List (List Int)) : List Int := (span N (2 * N + 1)).filter (pureB g)
theorem span_sorted (N i : Nat) : (span N i).Pairwise (· < ·) := by
  unfold span
  rw [List.pairwise_map]
  exact List.pairwise_lt_range.imp fun h => by omega
theorem span_succ (N i : Nat) : span N (i + 1) = span N i ++ [(i : Int) - N] := by
  unfold span; rw [List.range_succ, List.map_append]; rfl
def sortI (zs : List Int) : List Int := zs.mergeSort fun x y => decide (x ≤ y)
theorem sortI_sorted (zs : List Int) : (sortI zs).Pairwise (· ≤ ·) := by
  have := List.pairwise_mergeSort (le := fun x y : Int => decide (x ≤ y)) (fun a b c h1 h2 => by simp at *; omega) (fun a b => by simp; omega) zs
  exact this.imp fun h => of_decide_eq_true h
theorem sortI_mem (zs : List Int) (x : Int) : x ∈ sortI zs ↔ x ∈ zs := List.mem_mergeSort
theorem sortI_len (zs : List Int) : (sortI zs).length = zs.length := List.length_mergeSort _
/-- The program's pure literals are the document's. -/
theorem pure_same {N : Nat} {g : List (List Int)} (hg : AllLits N g) : ((compact (sortI g.flatten)).filter fun l => !hasB (compact (sortI g.flatten)) (-l)) = pureL N g := by
  obtain ⟨h1, h2⟩ := compact_facts _ (sortI_sorted g.flatten)
  have hm : ∀ x, x ∈ compact (sortI g.flatten) ↔ x ∈ g.flatten := fun x => (h2 x).trans (sortI_mem _ x)
  refine sorted_ext (h1.filter _) ((span_sorted N _).filter _) fun x => ?_
  rw [List.mem_filter, hm]
  unfold pureL
  rw [List.mem_filter]
  have hb : ∀ y, hasB (compact (sortI g.flatten)) y = occB g y := fun y => by
    rw [Bool.eq_iff_iff, hasB_mem, occ_mem, hm]
  rw [hb]
  unfold pureB
  constructor
  · rintro ⟨hx, h3⟩
    obtain ⟨k, hk, hxk⟩ := List.mem_flatten.1 hx
    have hl := lit_bds (hg k hk x hxk)
    refine ⟨?_, ?_⟩
    · unfold span
      rw [List.mem_map]
      refine ⟨(x + N).toNat, List.mem_range.2 (by omega), by omega⟩
    · rw [occ_mem.2 hx, h3]
      have : (x != 0) = true := by simp; omega
      rw [this]; rfl
  · rintro ⟨_, h3⟩
    rw [Bool.and_eq_true, Bool.and_eq_true] at h3
    exact ⟨occ_mem.1 h3.1.2, h3.2⟩
end Go.Proofs.Ytahaoddilejpnaa
