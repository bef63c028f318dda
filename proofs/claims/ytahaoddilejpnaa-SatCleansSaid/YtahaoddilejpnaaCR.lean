/- plain of the program. -/
import Derived.Test.YtahaoddilejpnaaCQ
import Derived.Test.YtahaoddilejpnaaHC
namespace Go.Proofs.Ytahaoddilejpnaa
open Go.RowKit

theorem plcl_any (l : Int) (Z : List Int) (q : Nat) (za : Option Addr) (zc : Nat) (w : World) (hl : -4000 ≤ l ∧ l ≤ 4000) (hZ : Z.length ≤ 100000) (hc : w.cell? ⟨q, 0, none⟩ = some (.slice za Z.length zc)) (hin : IntsIn w za Z) :
    Calls Try.prog 60 #[.int .i64 l, .pointer (some ⟨q, 0, none⟩)] w fun e w' => e = .returned (.bool (decide (l < 0) && hasB Z (-l))) ∧ Below w.heap.size w w' := by
  have HC := Lib.hid (contains_any Z (-l) za zc w hin hZ)
  obtain ⟨h1, h2⟩ := hl
  clear hin
  generalize Z.length = n at *
  generalize hasB Z (-l) = hb at *
  by_cases c : l < 0
  · rw [decide_eq_true c, Bool.true_and]
    go_enter Try.func60, Try.ntmps60
    go_wp2_with fail
    refine HC.out.mono ?_; rintro e v ⟨rfl, rfl⟩
    go_wp2_with fail
    go_ret
    exact ⟨rfl, Below.refl _ _⟩
  · rw [decide_eq_false c, Bool.false_and]
    go_enter Try.func60, Try.ntmps60
    go_wp2_with fail
    go_ret
    exact ⟨rfl, Below.refl _ _⟩
open Go.Shelf Go.Sort in
/-- Sort of a row of the call's own: no other block changes. -/
theorem sortG_any (B : Nat) (v : Value) (xs : List Int) (w : World) (hown : w.ownsRow B 3 1 v xs.length (encI xs)) (hl : xs.length ≤ 10000000) :
    Calls Try.prog 50 #[v] w fun e w' => e = .returned (.tuple #[]) ∧ w'.ownsRow B 3 1 v xs.length (encI (sortI xs)) ∧ w.grownBy w' v.ownBlock := by
  rcases hown.2 with ⟨rfl, h0⟩ | ⟨g, cap, cur, rfl, hB, hg, hnc, hm, hcs, ht⟩
  · have hx : xs = [] := List.length_eq_zero_iff.1 h0
    subst hx
    exact (Try.slices_Sort_int_none none 0 w).mono fun e w' ⟨h1, h2⟩ => by
      subst h2
      exact ⟨h1, by rw [show sortI [] = [] by simp [sortI]]; exact owns_nil _ _ _ _, ⟨rfl, rfl, rfl, Nat.le_refl _, fun _ _ _ => rfl⟩⟩
  · have hH : Holds (Value.int .i64) w g 0 xs.toArray := holds_of_blockI hg (by rw [Nat.mul_one] at ht; exact ht)
    refine (Try.slices_Sort_int g 0 cap xs w hH (lt_of_block hg) (by omega)).mono fun e w' ⟨h1, q, os, h2⟩ => ?_
    subst h2
    exact ⟨h1, (owns_grow (q := q) (os := os) hB hg hnc hm hcs (sortI_len xs)).1, grownBy_sortedI _⟩
open Go.Shelf Go.Sort in
/-- Compact of a row of the call's own: no other block changes. -/
theorem compactG_any (B : Nat) (v : Value) (xs : List Int) (w : World) (hown : w.ownsRow B 3 1 v xs.length (encI xs)) (hl : xs.length ≤ 10000000) :
    Calls Try.prog 51 #[v] w fun e w' => ∃ v', e = .returned v' ∧ w'.ownsRow B 3 1 v' (Lib.compact xs).length (encI (Lib.compact xs)) ∧ v'.ownBlock = v.ownBlock ∧ w.grownBy w' v.ownBlock := by
  rcases hown.2 with ⟨rfl, h0⟩ | ⟨g, cap, cur, rfl, hB, hg, hnc, hm, hcs, ht⟩
  · have hx : xs = [] := List.length_eq_zero_iff.1 h0
    subst hx
    exact (Try.slices_Compact_int_empty none 0 w).mono fun e w' ⟨h1, h2⟩ => by
      subst h2
      exact ⟨_, h1, owns_nil _ _ _ _, rfl, ⟨rfl, rfl, rfl, Nat.le_refl _, fun _ _ _ => rfl⟩⟩
  · have hH : Holds (Value.int .i64) w g 0 xs.toArray := holds_of_blockI hg (by rw [Nat.mul_one] at ht; exact ht)
    refine (Try.slices_Compact_int g 0 cap xs w hH (by omega) hnc).mono fun e w' ⟨h1, q, h2⟩ => ?_
    subst h2
    have hlen := Lib.compact_length_le xs
    have ho := owns_put (q := q) (m := (Lib.compact xs).length) (ts := Lib.compact xs ++ List.replicate (xs.length - (Lib.compact xs).length) 0) hB hg hnc hm hcs (by rw [List.length_append, List.length_replicate]; omega) hlen
    rw [List.take_left] at ho
    have hgr := grownBy_sortedI (w := w) (g := g) (n := q) (os := #[]) (Lib.compact xs ++ List.replicate (xs.length - (Lib.compact xs).length) 0).toArray
    rw [grow_empty] at hgr
    exact ⟨_, h1, ho.1, rfl, hgr⟩
theorem below_of_drew {w w' : World} (h : Below w.drew.heap.size w.drew w') : Below w.heap.size w w' := ⟨h.os, h.tape, h.output, h.size, h.block⟩
theorem plain_len (k : List Int) : (plainL k).length ≤ k.length := Nat.le_trans (Lib.compact_length_le _) (by rw [sortI_len]; exact Nat.le_refl _)
/-- What plain hands back: a row of the call's own. -/
def PlainPost (k : List Int) (w : World) (e : Ending) (w' : World) : Prop :=
  (∃ v, e = .returned (.tuple #[v, .bool (!(plainL k).any fun l => decide (l < 0) && hasB (plainL k) (-l))]) ∧ w'.ownsRow w.heap.size 3 1 v (plainL k).length (encI (plainL k))) ∧ Below w.heap.size w w'
set_option maxRecDepth 100000 in
set_option maxHeartbeats 1000000 in
theorem plain_any (k : List Int) (a : Option Addr) (cap : Nat) (w : World) (hin : IntsIn w a k) (h0 : a = none → cap = 0) (hk : k.length ≤ 1000) (hb : ∀ x ∈ k, -4000 ≤ x ∧ x ≤ 4000) :
    Calls Try.prog 32 #[.slice a k.length cap] w (PlainPost k w) := by
  have HCl := Lib.hid (clone_any k a cap w hin h0 (by omega))
  have HBd : Hid (∀ j, j < (plainL k).length → -4000 ≤ (plainL k).getD j 0 ∧ (plainL k).getD j 0 ≤ 4000) := Lib.hid fun j hj => hb _ (((plain_facts k).2 _).1 (getD_mem _ 0 j hj))
  have hpl := plain_len k
  have HPL := Lib.hid (show Lib.compact (sortI k) = plainL k from rfl)
  have HP : Hid (∀ v w', w'.ownsRow w.heap.size 3 1 v (plainL k).length (encI (plainL k)) → Below w.heap.size w w' → PlainPost k w (.returned (.tuple #[v, .bool (!(plainL k).any fun l => decide (l < 0) && hasB (plainL k) (-l))])) w') := Lib.hid fun v w' h1 h2 => ⟨⟨v, rfl, h1⟩, h2⟩
  have HKl := Lib.hid hk
  generalize PlainPost k w = P at *
  clear hin h0 hb
  go_enter Try.func32, Try.ntmps32
  go_wp2_with fail
  refine HCl.out.mono ?_; rintro e w2 ⟨⟨v2, rfl, hown2⟩, hb2⟩
  obtain ⟨va, vc, rfl⟩ := owns_shape hown2
  have HO2 := Lib.hid hown2; have HB2 := Lib.hid hb2
  clear hown2 hb2
  go_wp2_with fail
  have hq : ∃ q, w2.heap.size = q := ⟨_, rfl⟩
  obtain ⟨q, hq⟩ := hq
  have hcq : (w2.alloc (Obj.cells #[Value.slice va k.length vc] 40)).cell? ⟨q, 0, none⟩ = some (.slice va k.length vc) := by rw [← hq]; simp [go_sem]
  have hfq : (w2.alloc (Obj.cells #[Value.slice va k.length vc] 40)).frozen? ⟨q, 0, none⟩ = false := by rw [← hq]; simp [go_sem]
  have HO3 := Lib.hid (HO2.out.alloc (Obj.cells #[Value.slice va k.length vc] 40))
  have HB3 := Lib.hid (HB2.out.alloc HB2.out.size (Obj.cells #[Value.slice va k.length vc] 40))
  have HQ : Hid (∀ g, (Value.slice va k.length vc).ownBlock = some g → w.heap.size ≤ g ∧ g < q) := Lib.hid fun g hg => by have := owns_lt HO2.out hg; omega
  have HqW : Hid (w.heap.size ≤ q) := Lib.hid (by rw [← hq]; exact HB2.out.size)
  generalize w2.alloc (Obj.cells #[Value.slice va k.length vc] 40) = w3 at *
  generalize w2.heap.size = q2 at *
  subst hq
  have HSo := Lib.hid (sortG_any w.heap.size _ k w3 HO3.out (by omega))
  refine HSo.out.mono ?_; rintro e w4 ⟨rfl, ho4, hg4⟩
  have HNq : Hid (some q2 ≠ (Value.slice va k.length vc).ownBlock) := Lib.hid fun e => by have := HQ.out q2 e.symm; omega
  have hcq4 := cell_kept hcq hg4 HNq.out
  have hfq4 : w4.frozen? ⟨q2, 0, none⟩ = false := by
    rw [World.frozen?_of_block (w := w3) (hg4.block q2 (block_lt_of_cell hcq) HNq.out)]; exact hfq
  have HB4 := Lib.hid (HB3.out.grown hg4 HB3.out.size fun g hg => (HQ.out g hg).1)
  have HCo := Lib.hid (compactG_any w.heap.size _ (sortI k) w4 (by rw [sortI_len]; exact ho4) (by rw [sortI_len]; omega))
  rw [HPL.out] at HCo
  clear ho4 hg4 hcq hfq
  go_wp2_with fail
  refine HCo.out.mono ?_; rintro e w5 ⟨v5, rfl, ho5, hob5, hg5⟩
  have hcq5 := cell_kept hcq4 hg5 HNq.out
  have hfq5 : w5.frozen? ⟨q2, 0, none⟩ = false := by
    rw [World.frozen?_of_block (w := w4) (hg5.block q2 (block_lt_of_cell hcq4) HNq.out)]; exact hfq4
  have HB5 := Lib.hid (HB4.out.grown hg5 HB4.out.size fun g hg => (HQ.out g hg).1)
  obtain ⟨v5a, v5c, rfl⟩ := owns_shape ho5
  have HO5 := Lib.hid ho5
  have HOb := Lib.hid hob5
  clear hcq4 hg5 hob5 ho5 hfq4
  go_wp2_with fail
  have hcq6 : (w5.setCell ⟨q2, 0, none⟩ (.slice v5a (plainL k).length v5c)).cell? ⟨q2, 0, none⟩ = some (.slice v5a (plainL k).length v5c) := World.cell?_setCell_same _ _ _ hcq5
  have HO6 : Hid ((w5.setCell ⟨q2, 0, none⟩ (.slice v5a (plainL k).length v5c)).ownsRow w.heap.size 3 1 (.slice v5a (plainL k).length v5c) (plainL k).length (encI (plainL k))) := Lib.hid (ownsRow_setCell_other HO5.out (fun e => HNq.out (by rw [← HOb.out]; exact e.symm)) _)
  have HB6 : Hid (Below w.heap.size w (w5.setCell ⟨q2, 0, none⟩ (.slice v5a (plainL k).length v5c))) := Lib.hid (HB5.out.setCell HqW.out _)
  clear hcq5 hfq5
  generalize w5.setCell ⟨q2, 0, none⟩ (.slice v5a (plainL k).length v5c) = w6 at *
  obtain ⟨za, zc, ez, _, hiz⟩ := ints_of_owns HO6.out
  cases ez
  have HCF : Hid (∀ W, Below w6.heap.size w6 W → Calls Try.prog 40 #[.slice v5a (plainL k).length v5c, .func (.func 60) #[] #[.pointer (some ⟨q2, 0, none⟩)]] W fun e w' => e = .returned (.bool ((plainL k).any fun l => decide (l < 0) && hasB (plainL k) (-l))) ∧ Below W.heap.size W w') := Lib.hid fun W hW =>
    conI_any 60 #[.pointer (some ⟨q2, 0, none⟩)] (fun _ _ => rfl) (fun l => decide (l < 0) && hasB (plainL k) (-l)) (plainL k) v5a v5c W (hiz.below hW) (by omega) fun j W' hj hW' => plcl_any _ _ q2 v5a v5c W' (HBd.out j hj) (by omega) (keep hcq6 (hW.trans (hW'.mono hW.size))) (hiz.below (hW.trans (hW'.mono hW.size)))
  clear hiz
  generalize plainL k = Z at *
  generalize Z.any (fun l => decide (l < 0) && hasB Z (-l)) = tb at *
  generalize Z.length = zn at *
  go_region_held3 (fun w' => w'.cell? ⟨q2, 0, none⟩ = some (.slice v5a zn v5c)) (first | exact hcq6 | exact keep hcq6 (by assumption)) (first | (go_at_call 40; refine (HCF.out _ (below_drew1 (Below.refl _ _))).mono ?_; rintro e w7 ⟨rfl, hb7⟩; have hb7 := (by first | exact below_of_drew hb7 | exact hb7)))
  have HB7 := Lib.hid (HB6.out.trans (hb7.mono HB6.out.size))
  have HO7 := Lib.hid (owns_below HO6.out hb7)
  clear hb7
  go_wp2_with fail
  exact HP.out _ _ HO7.out HB7.out
end Go.Proofs.Ytahaoddilejpnaa
