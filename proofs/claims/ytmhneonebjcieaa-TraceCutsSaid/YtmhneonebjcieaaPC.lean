/- What is found in a cut table: plain lists of places. -/
import Derived.Test.YtmhneonebjcieaaCU
import Derived.Test.YtmhneonebjcieaaPN
namespace Go.Proofs.Ytmhneonebjcieaa
open Go.Sort Go.Shelf

/-- Two places of one variable do not overlap. -/
def RelD (p q : Pl) : Prop := p.va = q.va → p.to ≤ q.fr ∨ q.to ≤ p.fr
theorem RelD.symm {p q : Pl} (h : RelD p q) : RelD q p := fun e => (h e.symm).symm
theorem table_rel {l : List Pl} (ht : Table l) : l.Pairwise RelD := by
  rw [pair_at]
  intro k k' hkk hk' hv
  have h := ht.free k' k hk' hkk
  unfold clash at h
  rw [decide_eq_true hv.symm, Bool.true_and, Bool.and_eq_false_iff, decide_eq_false_iff_not, decide_eq_false_iff_not] at h
  omega
theorem good_mem {l : List Pl} (h : ∀ p ∈ l, Good p) : ∀ k, k < l.length → Good (at' l k) := fun _ hk => h _ (at_mem hk)
theorem table_of_rel {m : List Pl} (hl : m.length ≤ 64) (hg : ∀ p ∈ m, Good p) (hr : m.Pairwise RelD) : Table (sortP m) := by
  have hr' : (sortP m).Pairwise RelD := (List.Perm.pairwise_iff RelD.symm (sortP_perm m)).2 hr
  have hg' := good_mem (l := sortP m) fun p hp => hg p ((sortP_perm m).mem_iff.1 hp)
  have hr := pair_at.1 hr'
  have hs := pair_at.1 (sortP_sorted m)
  refine ⟨by rw [sortP_len]; exact hl, hg', fun i hi => ?_, fun i k hi hk => ?_⟩
  · have h1 : leP (at' (sortP m) i) (at' (sortP m) (i + 1)) := hs i (i + 1) (by omega) hi
    have h2 := hr i (i + 1) (by omega) hi
    have g := (hg' (i + 1) hi).ft
    cases e : ltP (at' (sortP m) i) (at' (sortP m) (i + 1))
    · have := ltP_total e h1
      rw [this] at h2
      have := h2 rfl
      omega
    · rfl
  · have h2 := hr k i hk hi
    have g := (hg' i hi).ft
    have g2 := (hg' k (by omega)).ft
    unfold clash
    by_cases hv : (at' (sortP m) i).va = (at' (sortP m) k).va
    · have := h2 hv.symm
      rw [Bool.and_eq_false_iff, Bool.and_eq_false_iff, decide_eq_false_iff_not, decide_eq_false_iff_not, decide_eq_false_iff_not]
      omega
    · rw [decide_eq_false hv]; rfl
def cutP (l : List Pl) (f t : Int) : List Pl := sortP (cutK l f t l.length)
theorem cut_mem {l : List Pl} {f t : Int} {p : Pl} : p ∈ cutK l f t l.length ↔ ∃ q ∈ l, p = clipP f t q ∧ p.fr < p.to := by
  unfold cutK
  rw [List.take_length, List.mem_filter, List.mem_map, decide_eq_true_iff]
  constructor
  · rintro ⟨⟨q, hq, rfl⟩, h⟩; exact ⟨q, hq, rfl, h⟩
  · rintro ⟨q, hq, rfl, h⟩; exact ⟨⟨q, hq, rfl⟩, h⟩
theorem cutP_mem {l : List Pl} {f t : Int} {p : Pl} : p ∈ cutP l f t ↔ ∃ q ∈ l, p = clipP f t q ∧ p.fr < p.to := (sortP_perm _).mem_iff.trans cut_mem
theorem cut_rel {l : List Pl} (ht : Table l) (f t : Int) : (cutK l f t l.length).Pairwise RelD := by
  unfold cutK
  rw [List.take_length]
  refine List.Pairwise.filter _ ?_
  rw [List.pairwise_map]
  refine (table_rel ht).imp fun {p q} h e => ?_
  have h := h e
  show min p.to t ≤ max q.fr f ∨ min q.to t ≤ max p.fr f
  omega
theorem cut_table {l : List Pl} (ht : Table l) {f t : Int} (hf : 0 ≤ f) (htt : t ≤ 32768) : Table (cutP l f t) := by
  refine table_of_rel (by have := cutK_len l f t l.length; have := ht.len; omega) (fun p hp => ?_) (cut_rel ht f t)
  obtain ⟨q, hq, rfl, hlt⟩ := cut_mem.1 hp
  obtain ⟨f0, ft, t1, v0, v1, k0, k1, n0, n1⟩ := ht.mem hq
  exact ⟨by show 0 ≤ max q.fr f; omega, hlt, by show min q.to t ≤ 32768; omega, v0, v1, k0, k1, n0, n1⟩
theorem cut_rel' {l : List Pl} (ht : Table l) (f t : Int) : (cutP l f t).Pairwise RelD := (List.Perm.pairwise_iff RelD.symm (sortP_perm _)).2 (cut_rel ht f t)
/-- Where two places without overlap cover the same, they are one. -/
theorem cov_oneD {m : List Pl} (hr : m.Pairwise RelD) {p q : Pl} (hp : p ∈ m) (hq : q ∈ m) {v a : Int} (h1 : covers v a p = true) (h2 : covers v a q = true) : p = q := by
  obtain ⟨i, hi, rfl⟩ := List.getElem_of_mem hp
  obtain ⟨j, hj, rfl⟩ := List.getElem_of_mem hq
  obtain ⟨a1, a2, a3⟩ := covers_iff.1 h1
  obtain ⟨b1, b2, b3⟩ := covers_iff.1 h2
  rw [List.pairwise_iff_getElem] at hr
  rcases Nat.lt_trichotomy i j with h | h | h
  · have := (hr i j hi hj h) (a1.trans b1.symm)
    omega
  · subst h; rfl
  · have := (hr j i hj hi h) (b1.trans a1.symm)
    omega
/-- What is found at an address of a place: it, if the address is within the stretch. -/
theorem cut_found {l : List Pl} (ht : Table l) {f t : Int} {i : Nat} (hi : i < l.length) {a : Int} (h1 : (at' l i).fr ≤ a) (h2 : a < (at' l i).to) :
    isFound (cutP l f t) (at' l i).va a = (decide (f ≤ a) && decide (a < t)) ∧ (isFound (cutP l f t) (at' l i).va a = true → (foundP (cutP l f t) (at' l i).va a).ki = (at' l i).ki ∧ (foundP (cutP l f t) (at' l i).va a).nn = (at' l i).nn) := by
  have hx := at_mem hi
  have hcx : covers (at' l i).va a (at' l i) = true := covers_iff.2 ⟨rfl, h1, h2⟩
  generalize at' l i = x at *
  have hcut : covers x.va a (clipP f t x) = (decide (f ≤ a) && decide (a < t)) := by
    rw [Bool.eq_iff_iff, covers_iff, Bool.and_eq_true, decide_eq_true_iff, decide_eq_true_iff]
    simp only [clipP]
    constructor
    · rintro ⟨_, g1, g2⟩; constructor <;> omega
    · rintro ⟨g1, g2⟩; exact ⟨trivial, by omega, by omega⟩
  have hany : ∀ p ∈ cutP l f t, covers x.va a p = true → p = clipP f t x ∧ covers x.va a (clipP f t x) = true := fun p hp hc => by
    obtain ⟨q, hq, rfl, hlt⟩ := cutP_mem.1 hp
    have hcq : covers x.va a q = true := by
      rw [covers_iff] at hc ⊢
      simp only [clipP] at hc
      omega
    obtain rfl := cov_oneD (table_rel ht) hq hx hcq hcx
    exact ⟨rfl, hc⟩
  constructor
  · cases hd : (decide (f ≤ a) && decide (a < t))
    · cases hf : isFound (cutP l f t) x.va a
      · rfl
      · obtain ⟨p, hp, hc⟩ := found_iff.1 hf
        have := (hany p hp hc).2
        rw [hcut, hd] at this; cases this
    · rw [hd] at hcut
      refine found_iff.2 ⟨clipP f t x, cutP_mem.2 ⟨x, hx, rfl, ?_⟩, hcut⟩
      have := covers_iff.1 hcut
      simp only [clipP] at this ⊢
      omega
  · intro hf
    obtain ⟨hp, hc⟩ := found_spec hf
    obtain ⟨e, _⟩ := hany _ hp hc
    rw [e]; exact ⟨rfl, rfl⟩
theorem cut_fnd {l : List Pl} {f t : Int} (hA : askedE l 0 [f, t] = 0) {i : Nat} (hi : i < l.length) {a : Int} (h1 : (at' l i).fr ≤ a) (h2 : a < (at' l i).to) :
    askedE (cutP l f t) (at' l i).va [a] = 0 ∧ fndB (cutP l f t) (at' l i).va a = (decide (f ≤ a) && decide (a < t)) ∧ (fndB (cutP l f t) (at' l i).va a = true → (fndP (cutP l f t) (at' l i).va a).ki = (at' l i).ki ∧ (fndP (cutP l f t) (at' l i).va a).nn = (at' l i).nn) := by
  obtain ⟨ht, _, _, hf0, _, ht1⟩ := asked_two_ok hA
  have hE := valE_zero.2 (cut_table ht hf0 ht1)
  obtain ⟨f0, ft, t1, v0, v1, _⟩ := ht.good i hi
  have he : askedE (cutP l f t) (at' l i).va [a] = 0 := by
    rw [asked_one hE, if_pos]
    unfold within
    simp only [Bool.and_eq_true, decide_eq_true_iff]
    omega
  obtain ⟨g1, g2⟩ := cut_found ht (f := f) (t := t) hi h1 h2
  unfold fndB fndP
  rw [if_pos he, if_pos he]
  exact ⟨he, g1, g2⟩
end Go.Proofs.Ytmhneonebjcieaa
