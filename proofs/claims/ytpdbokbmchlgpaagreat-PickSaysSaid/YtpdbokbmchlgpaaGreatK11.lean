/- Packed of several texts. -/
import Derived.Test.YtpdbokbmchlgpaaGreatK08
import Derived.Test.YtpdbokbmchlgpaaGreatK10
namespace Go.Proofs.YtpdbokbmchlgpaaGreat.PK
open Go.RowKit

/-! ### Rounds reach all, plainly -/
open FL in
/-- What a round has made of a set, where the nodes before b are done. -/
structure RndI (g : Gr) (but : Int) (S S' : NSet) (b : Nat) : Prop where
  sub : ∀ j, S j = true → S' j = true
  rch : ∀ j, S' j = true → ReachB g but 0 j
  don : ∀ u, u < b → S u = true → ∀ x ∈ succ g u, (x : Int) ≠ but → S' x = true
open FL in
/-- How far the rounds are. -/
structure RndO (g : Gr) (but : Int) (S : NSet) (r : Nat) : Prop where
  rch : ∀ j, S j = true → ReachB g but 0 j
  one : S 0 = true
  far : S = rs g but 0 ∨ cnt S + r + 1 ≤ 10
section
open FL
variable {g : Gr} {but : Int} {S S' : NSet} {r b : Nat}
theorem cnt_first : ∀ n, n ≤ 10 → cnt (fun j => decide (j < n)) = 10 - n := by decide
theorem cnt_more (h : ∀ j, S j = true → S' j = true) {j : Nat} (hj : j < 10) (h1 : S' j = true) (h2 : S j = false) : cnt S' < cnt S := by
  unfold cnt
  rw [← List.countP_eq_length_filter, ← List.countP_eq_length_filter]
  refine countP_lt (v := j) (fun i _ hi => ?_) (by simpa using hj) (by simp [h2]) (by simp [h1])
  have hi' : S' i = false := by simpa using hi
  simp only [Bool.not_eq_true']
  rw [← Bool.not_eq_true]
  intro c; rw [h i c] at hi'; cases hi'
theorem RndO.start (hb : (0 : Int) ≠ but) : RndO g but (FL.mark (fun _ => false) 0) 0 where
  rch j hj := by
    rcases FL.mark_cases hj with h | rfl
    · cases h
    · exact .here hb
  one := FL.mark_self _ _
  far := .inr (by have := cnt_mark (S := fun _ => false) (v := 0) (by omega) rfl; have := cnt_ten (fun _ => false); omega)
theorem RndO.round (h : RndO g but S r) : RndI g but S S 0 := ⟨fun _ h => h, h.rch, fun _ hu => absurd hu (Nat.not_lt_zero _)⟩
theorem RndI.done (ok : OkG g) (h : RndO g but S r) (h' : RndI g but S S' g.length) : RndO g but S' (r + 1) := by
  refine ⟨h'.rch, h'.sub 0 h.one, ?_⟩
  have h0 : (0 : Int) ≠ but := (h.rch 0 h.one).start
  by_cases hs : S = rs g but 0
  · refine .inl (funext fun j => ?_)
    rw [Bool.eq_iff_iff, rs_iff]
    exact ⟨h'.rch j, fun hj => h'.sub j (by rw [hs, rs_iff]; exact hj)⟩
  · have hc : cnt S + r + 1 ≤ 10 := h.far.resolve_left hs
    by_cases he : ∃ j, S' j = true ∧ S j = false
    · obtain ⟨j, h1, h2⟩ := he
      have hj : j < g.length := (h'.rch j h1).lt ok.fits ok.pos
      have := ok.ten
      have := cnt_more h'.sub (j := j) (by omega) h1 h2
      exact .inr (by omega)
    · have hn : ∀ j, S' j = true → S j = true := fun j hj => by
        cases hSj : S j
        · exact absurd ⟨j, hj, hSj⟩ he
        · rfl
      refine absurd (funext fun j => ?_) hs
      rw [Bool.eq_iff_iff, rs_iff]
      refine ⟨h.rch j, fun hj => ?_⟩
      refine hj.ind (fun j => S j = true) (fun _ => h.one) fun u x hu pu hx hb => hn x (h'.don u (hu.lt ok.fits ok.pos) pu x hx hb)
theorem RndO.all (ok : OkG g) (h : RndO g but S g.length) : S = rs g but 0 := by
  rcases h.far with e | e
  · exact e
  · exfalso
    have h1 := cnt_le (S := S) (T := fun j => decide (j < g.length)) fun j hj => decide_eq_true ((h.rch j hj).lt ok.fits ok.pos)
    rw [cnt_first _ ok.ten] at h1
    have := ok.ten
    omega
/-- One successor is looked at. -/
theorem RndI.mark (h : RndI g but S S' b) {x : Nat} (hb : S' b = true) (hx : x ∈ succ g b) (hn : (x : Int) ≠ but) : RndI g but S (FL.mark S' x) b where
  sub j hj := FL.mark_of (h.sub j hj)
  rch j hj := by
    rcases FL.mark_cases hj with c | rfl
    · exact h.rch j c
    · exact (h.rch b hb).step hx hn
  don u hu hs y hy hby := FL.mark_of (h.don u hu hs y hy hby)
theorem RndI.next (h : RndI g but S S' b) (hd : S' b = true → ∀ x ∈ succ g b, (x : Int) ≠ but → S' x = true) : RndI g but S S' (b + 1) where
  sub := h.sub
  rch := h.rch
  don u hu hs x hx hb := by
    by_cases e : u = b
    · subst e; exact hd (h.sub _ hs) x hx hb
    · exact h.don u (by omega) hs x hx hb
end
/-! ### Rows of Bools -/
def BlRow (w : World) (q n : Nat) (S : Nat → Bool) : Prop := w.heap[q]? = some (.cells (valArr n fun k => .bool (S k)) 4 (0, 0))
section
variable {w w' : World} {q n : Nat} {S : Nat → Bool}
theorem BlRow.cell (h : BlRow w q n S) {k : Nat} (hk : k < n) : w.cell? ⟨q, k, none⟩ = some (.bool (S k)) := by
  rw [cell_of_row w q k _ _ _ h]; exact valArr_get n _ k hk
theorem BlRow.free (h : BlRow w q n S) (k : Nat) : w.frozen? ⟨q, k, none⟩ = false := frozen_of_row w q k _ _ h
theorem BlRow.lt (h : BlRow w q n S) : q < w.heap.size := lt_of_block h
theorem BlRow.below (h : BlRow w q n S) (hb : Below w.heap.size w w') : BlRow w' q n S := by unfold BlRow; rw [hb.block q h.lt]; exact h
theorem BlRow.mark (h : BlRow w q n S) (v : Nat) : BlRow (w.setCell ⟨q, v, none⟩ (.bool true)) q n (FL.mark S v) := by
  unfold BlRow
  rw [heap_setCell_same w q v _ _ _ h, valArr_set]
  congr 3
  funext j
  unfold upd FL.mark
  by_cases e : j = v
  · rw [if_pos e]; simp [e]
  · rw [if_neg e]; simp [e]
end
end Go.Proofs.YtpdbokbmchlgpaaGreat.PK
