/- slices.DeleteFunc and Clone of numbers, at a row of the call's own. -/
import Derived.Test.YtahaoddilejpnaaHA
import Derived.Test.YtahaoddilejpnaaS
import Derived.Sort.OwnSortedInts
import Derived.Shelf.SlicesE.DeleteFunc
import Derived.Ground.SlgfProg
namespace Go.Proofs
open Go.Shelf Go.RowKit Go.Lib Go.Sort
shelf_lay_g SlLaysH.n10 Slgf 10 at Try 46 as Try.lDel
end Go.Proofs
namespace Go.Proofs.Ytahaoddilejpnaa
open Go.RowKit Go.Shelf Go.Sort

/-- The closure of Assign. -/
theorem isNeg_any (Bl : Nat) (l x : Int) (w : World) (hl : -4000 ≤ l ∧ l ≤ 4000) (hc : w.cell? ⟨Bl, 0, none⟩ = some (.int .i64 l)) : Calls Try.prog 47 #[.int .i64 x, .pointer (some ⟨Bl, 0, none⟩)] w fun e w' => e = .returned (.bool (x == -l)) ∧ w' = w := by
  go_enter Try.func47, Try.ntmps47
  go_wp2_with fail
  go_ret
  exact ⟨rfl, rfl⟩
theorem isNeg_gives (Bl : Nat) (l x : Int) (w : World) (hl : -4000 ≤ l ∧ l ≤ 4000) (hc : w.cell? ⟨Bl, 0, none⟩ = some (.int .i64 l)) : FnGives Try.prog 47 #[.pointer (some ⟨Bl, 0, none⟩)] #[.int .i64 x] (.bool (x == -l)) w := by
  show Calls Try.prog 47 #[.int .i64 x, .pointer (some ⟨Bl, 0, none⟩)] w _
  exact (isNeg_any Bl l x w hl hc).mono fun e w' ⟨h1, h2⟩ => ⟨h1, 0, h2⟩
/-- What a row of the call's own holds when a library function has written it. -/
theorem owns_put {w : World} {B g cap q m : Nat} {cur : Array Value} {e : TypeId} {xs ts : List Int} (hB : B ≤ g) (hb : w.heap[g]? = some (.cells cur e (0, 0))) (h1 : xs.length ≤ cap) (h2 : cap ≤ maxLen) (h3 : cur.size = cap * 1) (hl : ts.length = xs.length) (hm : m ≤ xs.length) :
    (putRow (Value.int .i64) (Sort.ahead w q) g 0 ts.toArray).ownsRow B e 1 (.slice (some ⟨g, 0, none⟩) m cap) m (encI (ts.take m)) ∧ Below B w (putRow (Value.int .i64) (Sort.ahead w q) g 0 ts.toArray) := by
  have ho := ownsRow_sortedI (n := q) (os := #[]) hl hB hb h1 h2 h3
  have hg := grownBy_sortedI (w := w) (g := g) (n := q) (os := #[]) ts.toArray
  rw [grow_empty] at ho hg
  rw [encI_take]
  exact ⟨owns_take (n := xs.length) ho hm, ⟨hg.os, hg.tape, hg.output, hg.size, fun k hk => by
    by_cases hks : k < w.heap.size
    · exact hg.block k hks (fun e => by cases e; omega)
    · have : w.heap.size ≤ g := by omega
      exact absurd (lt_of_block hb) (by omega)⟩⟩
set_option maxRecDepth 1000000 in
theorem del_any (Bl B : Nat) (l : Int) (v : Value) (xs : List Int) (w : World) (hl : -4000 ≤ l ∧ l ≤ 4000) (hown : w.ownsRow B 3 1 v xs.length (encI xs)) (hBl : Bl < B ∧ B ≤ w.heap.size) (hc : w.cell? ⟨Bl, 0, none⟩ = some (.int .i64 l)) (hxs : xs.length ≤ 1000) :
    Calls Try.prog 46 #[v, .func (.func 47) #[] #[.pointer (some ⟨Bl, 0, none⟩)]] w fun e w' => (∃ v', e = .returned v' ∧ w'.ownsRow B 3 1 v' (xs.filter fun x => x != -l).length (encI (xs.filter fun x => x != -l))) ∧ Below B w w' := by
  rcases hown.2 with ⟨rfl, h0⟩ | ⟨g, cap, cur, rfl, hB, hg, hnc, hm, hcs, ht⟩
  · have hx : xs = [] := List.length_eq_zero_iff.1 h0
    subst hx
    have HC := Lib.hid (idxI_any 47 #[.pointer (some ⟨Bl, 0, none⟩)] (fun _ _ => rfl) (fun x => x == -l) [] none 0 w (IntsIn.nil _ _) (by simp) fun k W hk => absurd hk (Nat.not_lt_zero _))
    go_enter Try.func46, Try.ntmps46
    go_wp2_with fail
    refine HC.out.mono ?_; rintro e w2 ⟨r, rfl, hr, hb2⟩
    rcases hr with ⟨rfl, _⟩ | ⟨k, hk, _⟩
    · go_wp2_with fail
      go_ret
      exact ⟨⟨_, rfl, owns_nil _ _ _ _⟩, hb2.mono hBl.2⟩
    · exact absurd hk (Nat.not_lt_zero _)
  · have hH : Holds (Value.int .i64) w g 0 xs.toArray := holds_of_blockI hg (by rw [Nat.mul_one] at ht; exact ht)
    have hlen := filter_len xs (fun x => x != -l)
    have hcon := AnyE.slices_DeleteFunc Try.lDel (Value.int .i64) (fun _ => rfl) (fun x => x == -l) 47 #[.pointer (some ⟨Bl, 0, none⟩)] (fun _ _ => rfl) 0 Try.zeroValue3 g 0 cap xs.toArray w
      (fun W x hb => isNeg_gives Bl l x W hl (keep hc hb))
      (fun n os dk x _ => isNeg_gives Bl l x _ hl (by
        unfold sortWorld
        rw [cell?_grow _ _ _ (by show Bl < (putRow _ _ _ _ _).heap.size; rw [size_putRow]; show Bl < w.heap.size; omega), cell?_putRow_other _ _ g 0 _ _ (Or.inl (by show Bl ≠ g; omega))]
        exact hc)) hH (by simp; omega) (by simpa using hnc)
    change Calls Try.prog 46 _ _ _ at hcon
    have e1 : xs.toArray.size = xs.length := by simp
    have e2 : (xs.toArray.toList.filter fun x => !(x == -l)) = xs.filter fun x => x != -l := rfl
    rw [e1, e2] at hcon
    refine hcon.mono ?_
    rintro e w' ⟨rfl, q, rfl⟩
    have ho := owns_put (q := q) (m := (xs.filter fun x => x != -l).length) (ts := (xs.filter fun x => x != -l) ++ List.replicate (xs.length - (xs.filter fun x => x != -l).length) 0) hB hg hnc hm hcs (by rw [List.length_append, List.length_replicate]; omega) hlen
    rw [List.take_left] at ho
    exact ⟨⟨_, rfl, ho.1⟩, ho.2⟩
/-- Clone of numbers: a row of the call's own. -/
theorem clone_any (xs : List Int) (a : Option Addr) (cap : Nat) (w : World) (hin : IntsIn w a xs) (h0 : a = none → cap = 0) (hl : xs.length ≤ 100000) :
    Calls Try.prog 43 #[.slice a xs.length cap] w fun e w' => (∃ v, e = .returned v ∧ w'.ownsRow w.heap.size 3 1 v xs.length (encI xs)) ∧ Below w.heap.size w w' := by
  by_cases hx : xs = []
  · subst hx
    cases a with
    | none => exact (Try.slices_Clone_int_nil 0 cap w).mono fun e w' ⟨h1, h2⟩ => by subst h2; exact ⟨⟨_, h1, owns_nil _ _ _ _⟩, Below.refl _ _⟩
    | some b => exact (Try.slices_Clone_int_zero b cap w).mono fun e w' ⟨v, h1, h2, _, h3⟩ => ⟨⟨v, h1, h2⟩, h3⟩
  · obtain ⟨b, off, rfl, _⟩ := hin 0 (List.length_pos_iff.2 hx)
    refine (Try.slices_Clone_int b off xs.length cap xs w (Nat.le_refl _) (by omega) fun j hj => ?_).mono fun e w' ⟨v, h1, h2, _, h3⟩ => ⟨⟨v, h1, ?_⟩, h3⟩
    · obtain ⟨b', off', e, hc⟩ := hin j hj
      cases e
      exact hc
    · rw [List.take_length] at h2
      exact h2
end Go.Proofs.Ytahaoddilejpnaa
