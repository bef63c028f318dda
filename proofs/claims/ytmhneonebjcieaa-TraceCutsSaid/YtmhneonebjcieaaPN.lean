/- A merged table is a table, is merged, and finds the same. -/
import Derived.Test.YtmhneonebjcieaaPM
import Derived.Test.YtmhneonebjcieaaFF
namespace Go.Proofs.Ytmhneonebjcieaa
open Go.Sort Go.Shelf

/-- Two places do not clash, and none goes on into the other. -/
def RelM (p q : Pl) : Prop := (p.va = q.va → p.to ≤ q.fr ∨ q.to ≤ p.fr) ∧ (thing p = thing q → p.to ≠ q.fr ∧ q.to ≠ p.fr)
theorem RelM.symm {p q : Pl} (h : RelM p q) : RelM q p := ⟨fun e => (h.1 e.symm).symm, fun e => (h.2 e.symm).symm⟩
theorem pair_at {l : List Pl} {R : Pl → Pl → Prop} : l.Pairwise R ↔ ∀ k k', k < k' → k' < l.length → R (at' l k) (at' l k') := by
  rw [List.pairwise_iff_getElem]
  constructor
  · intro h k k' hk hk'
    have := h k k' (by omega) hk' hk
    unfold at'
    rw [List.getD_eq_getElem?_getD, List.getD_eq_getElem?_getD, List.getElem?_eq_getElem hk', List.getElem?_eq_getElem (by omega)]
    exact this
  · intro h k k' hk hk' hkk
    have := h k k' hkk hk'
    unfold at' at this
    rw [List.getD_eq_getElem?_getD, List.getD_eq_getElem?_getD, List.getElem?_eq_getElem hk', List.getElem?_eq_getElem hk] at this
    exact this
theorem sortP_perm (l : List Pl) : (sortP l).Perm l := List.mergeSort_perm l _
theorem sortP_sorted (l : List Pl) : (sortP l).Pairwise leP := by
  rw [← insSort_sortP]
  exact (insSort_ok l [] List.Pairwise.nil).1
theorem sortP_fix {l : List Pl} (h : l.Pairwise leP) : sortP l = l :=
  List.Perm.eq_of_pairwise (le := leP) (fun _ _ _ _ h k => ltP_total k h) (sortP_sorted l) h (sortP_perm l)
/-- The merged table. -/
def mergedP (l : List Pl) : List Pl := sortP (mRun l l.length).out
theorem out_rel {l : List Pl} {i : Nat} {s : MSt} (h : MInv l i s) : s.out.Pairwise RelM := by
  rw [pair_at]
  intro k k' hkk hk'
  have g := (h.good k' hk').ft
  have g0 := (h.good k (by omega)).ft
  refine ⟨fun e => .inl (h.ord k k' hkk hk' e), fun e => ?_⟩
  have h1 := h.ord k k' hkk hk' (thing_iff.1 e).1
  exact ⟨h.gap k k' hkk hk' e, by omega⟩
theorem merged_rel {l : List Pl} (ht : Table l) : (mergedP l).Pairwise RelM := by
  have h := mInv_run ht l.length (Nat.le_refl _)
  exact (List.Perm.pairwise_iff RelM.symm (sortP_perm _)).2 (out_rel h)
theorem merged_good {l : List Pl} (ht : Table l) {k : Nat} (hk : k < (mergedP l).length) : Good (at' (mergedP l) k) := by
  have h := mInv_run ht l.length (Nat.le_refl _)
  have hm := at_mem hk
  have hm := (sortP_perm _).mem_iff.1 hm
  obtain ⟨j, hj, e⟩ := List.getElem_of_mem hm
  have := h.good j hj
  unfold at' at this
  rw [List.getD_eq_getElem?_getD, List.getElem?_eq_getElem hj] at this
  rw [← e]; exact this
theorem merged_len {l : List Pl} (ht : Table l) : (mergedP l).length ≤ l.length := by
  have h := mInv_run ht l.length (Nat.le_refl _)
  unfold mergedP
  rw [sortP_len]; exact h.len
theorem merged_table {l : List Pl} (ht : Table l) : Table (mergedP l) := by
  have hr := pair_at.1 (merged_rel ht)
  have hs := pair_at.1 (sortP_sorted (mRun l l.length).out)
  refine ⟨by have := merged_len ht; have := ht.len; omega, fun i hi => merged_good ht hi, fun i hi => ?_, fun i k hi hk => ?_⟩
  · have h1 : leP (at' (mergedP l) i) (at' (mergedP l) (i + 1)) := hs i (i + 1) (by omega) hi
    have h2 := hr i (i + 1) (by omega) hi
    have g := (merged_good ht hi).ft
    cases e : ltP (at' (mergedP l) i) (at' (mergedP l) (i + 1))
    · have := ltP_total e h1
      rw [this] at h2
      have := h2.1 rfl
      omega
    · rfl
  · have h2 := (hr k i hk hi).1
    have g := (merged_good ht hi).ft
    have g2 := (merged_good ht (show k < (mergedP l).length by omega)).ft
    unfold clash
    by_cases hv : (at' (mergedP l) i).va = (at' (mergedP l) k).va
    · have := h2 hv.symm
      rw [Bool.and_eq_false_iff, Bool.and_eq_false_iff, decide_eq_false_iff_not, decide_eq_false_iff_not, decide_eq_false_iff_not]
      omega
    · rw [decide_eq_false hv]; rfl
/-- A table in which no place goes on into another one stays as it is. -/
theorem merge_fix {m : List Pl} (ht : Table m) (hr : m.Pairwise RelM) : ∀ k, k ≤ m.length → (mRun m k).out = m.take k
  | 0, _ => by simp [mRun]
  | k + 1, hk => by
    have ih := merge_fix ht hr k (by omega)
    have h := mInv_run ht k (by omega)
    rw [mRun_next (by omega), take_next (by omega)]
    generalize mRun m k = s at *
    have hn : joins s (at' m k) = none := by
      cases hj : joins s (at' m k) with
      | none => rfl
      | some k0 =>
        exfalso
        obtain ⟨e1, e2⟩ := joins_spec hj
        obtain ⟨hk0, e3⟩ := h.ix1 _ _ e1
        rw [ih, List.length_take] at hk0
        rw [ih, at_take (by omega)] at e2 e3
        have := pair_at.1 hr k0 k (by omega) (by omega)
        exact (this.2 e3).1 e2
    have hs : mStep s (at' m k) = ⟨s.out ++ [at' m k], updL s.ix (thing (at' m k)) s.out.length⟩ := by unfold mStep; rw [hn]
    rw [hs]
    show s.out ++ [at' m k] = _
    rw [ih]
theorem merged_again {l : List Pl} (ht : Table l) : mergedP (mergedP l) = mergedP l := by
  show sortP (mRun (mergedP l) (mergedP l).length).out = mergedP l
  rw [merge_fix (merged_table ht) (merged_rel ht) _ (Nat.le_refl _), List.take_length]
  exact sortP_fix (sortP_sorted _)
theorem merged_cov {l : List Pl} (ht : Table l) (j : Int × Int × Int) (a : Int) : (∃ p ∈ mergedP l, covT j a p) ↔ ∃ q ∈ l, covT j a q := by
  have h := (mInv_run ht l.length (Nat.le_refl _)).cov j a
  have hm : ∀ {m : List Pl}, (∃ k, k < m.length ∧ covT j a (at' m k)) ↔ ∃ p ∈ m, covT j a p := fun {m} => by
    constructor
    · rintro ⟨k, hk, hc⟩; exact ⟨_, at_mem hk, hc⟩
    · rintro ⟨p, hp, hc⟩
      obtain ⟨k, hk, rfl⟩ := List.getElem_of_mem hp
      exact ⟨k, hk, by unfold at'; rw [List.getD_eq_getElem?_getD, List.getElem?_eq_getElem hk]; exact hc⟩
  have h2 : (∃ k, k < (mRun l l.length).out.length ∧ covT j a (at' (mRun l l.length).out k)) ↔ ∃ q ∈ l, covT j a q := h.trans hm
  rw [hm] at h2
  rw [← h2]
  constructor
  · rintro ⟨p, hp, hc⟩; exact ⟨p, (sortP_perm _).mem_iff.1 hp, hc⟩
  · rintro ⟨p, hp, hc⟩; exact ⟨p, (sortP_perm _).mem_iff.2 hp, hc⟩
theorem covers_iff {v a : Int} {p : Pl} : covers v a p = true ↔ p.va = v ∧ p.fr ≤ a ∧ a < p.to := by
  unfold covers
  simp only [Bool.and_eq_true, decide_eq_true_iff]
theorem found_iff {l : List Pl} {v a : Int} : isFound l v a = true ↔ ∃ p ∈ l, covers v a p = true := by
  unfold isFound findP
  rw [List.find?_isSome]
theorem found_spec {l : List Pl} {v a : Int} (h : isFound l v a = true) : foundP l v a ∈ l ∧ covers v a (foundP l v a) = true := by
  unfold isFound at h
  obtain ⟨x, hx⟩ := Option.isSome_iff_exists.1 h
  unfold foundP
  rw [hx]
  exact ⟨List.mem_of_find?_eq_some hx, List.find?_some hx⟩
theorem found_no {l : List Pl} {v a : Int} (h : isFound l v a = false) : foundP l v a = noPl := by
  unfold isFound at h
  unfold foundP
  rw [Option.isSome_eq_false_iff, Option.isNone_iff_eq_none] at h
  rw [h]; rfl
/-- Where two places of a table cover the same, they are one. -/
theorem cov_one {m : List Pl} (hr : m.Pairwise RelM) {p q : Pl} (hp : p ∈ m) (hq : q ∈ m) {v a : Int} (h1 : covers v a p = true) (h2 : covers v a q = true) : p = q := by
  obtain ⟨i, hi, rfl⟩ := List.getElem_of_mem hp
  obtain ⟨j, hj, rfl⟩ := List.getElem_of_mem hq
  obtain ⟨a1, a2, a3⟩ := covers_iff.1 h1
  obtain ⟨b1, b2, b3⟩ := covers_iff.1 h2
  rw [List.pairwise_iff_getElem] at hr
  rcases Nat.lt_trichotomy i j with h | h | h
  · have := (hr i j hi hj h).1 (a1.trans b1.symm)
    omega
  · subst h; rfl
  · have := (hr j i hj hi h).1 (b1.trans a1.symm)
    omega
theorem merged_found {l : List Pl} (ht : Table l) (v a : Int) : isFound (mergedP l) v a = isFound l v a ∧ (foundP (mergedP l) v a).ki = (foundP l v a).ki ∧ (foundP (mergedP l) v a).nn = (foundP l v a).nn := by
  cases h : isFound l v a
  · have hm : isFound (mergedP l) v a = false := by
      cases h2 : isFound (mergedP l) v a
      · rfl
      · obtain ⟨p, hp, hc⟩ := found_iff.1 h2
        obtain ⟨c1, c2, c3⟩ := covers_iff.1 hc
        obtain ⟨q, hq, d1, d2, d3⟩ := (merged_cov ht (thing p) a).1 ⟨p, hp, rfl, c2, c3⟩
        have : isFound l v a = true := found_iff.2 ⟨q, hq, covers_iff.2 ⟨(thing_iff.1 d1).1.trans c1, d2, d3⟩⟩
        rw [h] at this; cases this
    rw [found_no h, found_no hm]
    exact ⟨hm, rfl, rfl⟩
  · obtain ⟨hp, hc⟩ := found_spec h
    obtain ⟨c1, c2, c3⟩ := covers_iff.1 hc
    obtain ⟨q, hq, d1, d2, d3⟩ := (merged_cov ht (thing (foundP l v a)) a).2 ⟨_, hp, rfl, c2, c3⟩
    have hcq : covers v a q = true := covers_iff.2 ⟨(thing_iff.1 d1).1.trans c1, d2, d3⟩
    have hm : isFound (mergedP l) v a = true := found_iff.2 ⟨q, hq, hcq⟩
    obtain ⟨hp2, hc2⟩ := found_spec hm
    have e := cov_one (merged_rel ht) hp2 hq hc2 hcq
    rw [e]
    exact ⟨hm, (thing_iff.1 d1).2.1, (thing_iff.1 d1).2.2⟩
theorem asked_same {l m : List Pl} (hl : valE l = 0) (hm : valE m = 0) (v : Int) (ads : List Int) : askedE m v ads = askedE l v ads := by
  unfold askedE
  rw [hl, hm]
theorem merged_fnd {l : List Pl} (ht : Table l) (v a : Int) : fndB (mergedP l) v a = fndB l v a ∧ (fndP (mergedP l) v a).ki = (fndP l v a).ki ∧ (fndP (mergedP l) v a).nn = (fndP l v a).nn := by
  have e := asked_same (valE_zero.2 ht) (valE_zero.2 (merged_table ht)) v [a]
  unfold fndB fndP
  rw [e]
  obtain ⟨h1, h2, h3⟩ := merged_found ht v a
  split
  · exact ⟨h1, h2, h3⟩
  · exact ⟨rfl, rfl, rfl⟩
end Go.Proofs.Ytmhneonebjcieaa
