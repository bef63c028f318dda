/- Sorting by insertion is sorting: plain lists of places. -/
import Derived.Test.YtmhneonebjcieaaSO
namespace Go.Proofs.Ytmhneonebjcieaa
open Go.Sort Go.Shelf

def leP (x y : Pl) : Prop := ltP y x = false
theorem leP_trans {x y z : Pl} (h : leP x y) (k : leP y z) : leP x z := swoP.ntrans z y x k h
theorem leP_of_lt {x y : Pl} (h : ltP x y = true) : leP x y := by
  unfold leP
  cases e : ltP y x
  · rfl
  · have := ltP_trans h e
    rw [ltP_irrefl] at this; cases this
/-- The element behind the reversed list ra goes down while it is smaller. -/
def downI (x : Pl) : List Pl → List Pl → List Pl
  | [], B => x :: B
  | y :: ra, B => if ltP x y then downI x ra (y :: B) else (y :: ra).reverse ++ x :: B
theorem downI_perm (x : Pl) : ∀ (ra B : List Pl), (downI x ra B).Perm (x :: (ra.reverse ++ B))
  | [], B => List.Perm.refl _
  | y :: ra, B => by
    unfold downI
    split
    · refine (downI_perm x ra (y :: B)).trans ?_
      rw [List.reverse_cons, List.append_assoc]; exact List.Perm.refl _
    · exact List.perm_middle
theorem downI_sorted (x : Pl) : ∀ (ra B : List Pl), (ra.reverse ++ B).Pairwise leP → (∀ b ∈ B, leP x b) → (downI x ra B).Pairwise leP
  | [], B, h, hB => by
    unfold downI
    exact List.pairwise_cons.2 ⟨hB, by simpa using h⟩
  | y :: ra, B, h, hB => by
    unfold downI
    split
    · rename_i hlt
      refine downI_sorted x ra (y :: B) (by simpa using h) fun b hb => ?_
      rcases List.mem_cons.1 hb with rfl | hb
      · exact leP_of_lt hlt
      · exact hB b hb
    · rename_i hlt
      have hxy : leP y x := by unfold leP; simpa using hlt
      rw [List.pairwise_append] at h ⊢
      obtain ⟨h1, h2, h3⟩ := h
      refine ⟨h1, List.pairwise_cons.2 ⟨hB, h2⟩, fun a ha b hb => ?_⟩
      rcases List.mem_cons.1 hb with rfl | hb
      · rw [List.reverse_cons, List.pairwise_append] at h1
        rw [List.reverse_cons] at ha
        rcases List.mem_append.1 ha with ha | ha
        · exact leP_trans (h1.2.2 a ha y (by simp)) hxy
        · simp only [List.mem_singleton] at ha
          rw [ha]; exact hxy
      · exact h3 a ha b hb
/-- The place k is exchanged with the one before it. -/
def swapP (l : List Pl) (k : Nat) : List Pl := (l.set (k + 1) (at' l k)).set k (at' l (k + 1))
def swapDown (l : List Pl) : Nat → List Pl
  | 0 => l
  | k + 1 => if ltP (at' l (k + 1)) (at' l k) then swapDown (swapP l k) k else l
theorem swapP_len (l : List Pl) (k : Nat) : (swapP l k).length = l.length := by simp [swapP]
theorem at_app {A B : List Pl} {k : Nat} : at' (A ++ B) (A.length + k) = at' B k := by
  unfold at'
  rw [List.getD_eq_getElem?_getD, List.getD_eq_getElem?_getD, List.getElem?_append_right (by omega)]
  congr 2; omega
theorem swapP_app (A B : List Pl) (x y : Pl) : swapP (A ++ y :: x :: B) A.length = A ++ x :: y :: B := by
  unfold swapP
  have h0 : at' (A ++ y :: x :: B) A.length = y := at_app (k := 0)
  have h1 : at' (A ++ y :: x :: B) (A.length + 1) = x := at_app (k := 1)
  rw [h0, h1, List.set_append_right _ _ (by omega), List.set_append_right _ _ (by omega)]
  simp
theorem swapDown_down (x : Pl) : ∀ (ra B : List Pl), swapDown (ra.reverse ++ x :: B) ra.length = downI x ra B
  | [], B => rfl
  | y :: ra, B => by
    have e : (y :: ra).reverse ++ x :: B = ra.reverse ++ y :: x :: B := by simp
    rw [e]
    show swapDown _ (ra.length + 1) = _
    have hl : ra.reverse.length = ra.length := by simp
    have h0 : at' (ra.reverse ++ y :: x :: B) ra.length = y := by rw [← hl]; exact at_app (k := 0)
    have h1 : at' (ra.reverse ++ y :: x :: B) (ra.length + 1) = x := by rw [← hl]; exact at_app (k := 1)
    unfold swapDown downI
    rw [h0, h1]
    split
    · have hs := swapP_app ra.reverse B x y
      rw [hl] at hs
      rw [hs]
      exact swapDown_down x ra (y :: B)
    · exact e.symm
def insP (out : List Pl) (x : Pl) : List Pl := swapDown (out ++ [x]) out.length
def insSort (l : List Pl) : List Pl := l.foldl insP []
theorem insP_down (out : List Pl) (x : Pl) : insP out x = downI x out.reverse [] := by
  unfold insP
  have := swapDown_down x out.reverse []
  rw [List.reverse_reverse, List.length_reverse] at this
  exact this
theorem insSort_ok : ∀ (l acc : List Pl), acc.Pairwise leP → (l.foldl insP acc).Pairwise leP ∧ (l.foldl insP acc).Perm (acc ++ l)
  | [], acc, h => ⟨h, by simp⟩
  | x :: l, acc, h => by
    have hs : (insP acc x).Pairwise leP := by rw [insP_down]; exact downI_sorted x _ _ (by simpa using h) (fun b hb => by cases hb)
    have hp : (insP acc x).Perm (x :: acc) := by rw [insP_down]; simpa using downI_perm x acc.reverse []
    obtain ⟨h1, h2⟩ := insSort_ok l (insP acc x) hs
    refine ⟨h1, h2.trans ((hp.append_right l).trans ?_)⟩
    show (x :: (acc ++ l)).Perm (acc ++ x :: l)
    exact List.perm_middle.symm
theorem insSort_sortP (l : List Pl) : insSort l = sortP l := by
  obtain ⟨h1, h2⟩ := insSort_ok l [] List.Pairwise.nil
  have h3 : (sortP l).Pairwise leP := by
    have := List.pairwise_mergeSort (le := fun x y => !(ltOf cmpP) y x) (fun a b c h k => by
      simp only [ltOf_ltP, Bool.not_eq_true'] at *
      exact leP_trans (x := a) (y := b) (z := c) h k) (fun a b => by
      simp only [ltOf_ltP]
      cases h : ltP b a
      · rfl
      · have := leP_of_lt h
        unfold leP at this
        rw [this]; rfl) l
    exact this.imp fun h => by unfold leP; simpa [ltOf_ltP] using h
  refine List.Perm.eq_of_pairwise (le := leP) (fun a b _ _ h k => ltP_total k h) h1 h3 ?_
  have h4 : (sortP l).Perm l := List.mergeSort_perm l _
  have h2 : (insSort l).Perm l := by unfold insSort; simpa using h2
  exact h2.trans h4.symm
theorem insP_len (out : List Pl) (x : Pl) : (insP out x).length = out.length + 1 := by
  rw [insP_down]
  have := (downI_perm x out.reverse []).length_eq
  simpa using this
theorem swapDown_len : ∀ (k : Nat) (l : List Pl), (swapDown l k).length = l.length
  | 0, _ => rfl
  | k + 1, l => by
    unfold swapDown
    split
    · rw [swapDown_len k, swapP_len]
    · rfl
def insK (l : List Pl) (k : Nat) : List Pl := insSort (l.take k)
theorem insK_next {l : List Pl} {k : Nat} (h : k < l.length) : insK l (k + 1) = insP (insK l k) (at' l k) := by
  unfold insK insSort
  have : l.take (k + 1) = l.take k ++ [at' l k] := by
    rw [List.take_succ_eq_append_getElem h]
    unfold at'
    rw [List.getD_eq_getElem?_getD, List.getElem?_eq_getElem h]; rfl
  rw [this, List.foldl_append]; rfl
theorem insK_full (l : List Pl) : insK l l.length = sortP l := by unfold insK; rw [List.take_length, insSort_sortP]
theorem insK_len (l : List Pl) (k : Nat) (h : k ≤ l.length) : (insK l k).length = k := by
  unfold insK
  rw [insSort_sortP, sortP_len, List.length_take]; omega
end Go.Proofs.Ytmhneonebjcieaa
