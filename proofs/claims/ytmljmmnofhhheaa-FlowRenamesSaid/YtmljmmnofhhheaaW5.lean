/- Walks of Validate, both; of the errors of nodes. -/
import Derived.Test.YtmljmmnofhhheaaW4
namespace Go.Proofs.Ytmljmmnofhhheaa
open Go.RowKit

def largeB (g : List (List Int)) : Bool := decide (g.length < 1) || (decide (10 < g.length) || g.any (fun r => decide (2 < r.length)))
def argB (g : List (List Int)) : Bool := g.any (fun r => r.any (offB g.length))
def validE (g : List (List Int)) : Int := if largeB g then 3 else if argB g then 1 else 0
/-- Not much longer than a valid graph. -/
structure Short (g : List (List Int)) : Prop where
  len : g.length ≤ 1000
  row : ∀ k, (g.getD k []).length ≤ 1000

set_option maxRecDepth 100000 in
set_option maxHeartbeats 1000000 in
theorem Validate_any (g : List (List Int)) (a : Option Addr) (cap : Nat) (w : World) (hin : RowsIn w a g) (hs : Short g) :
    Calls Try.prog 25 #[.slice a g.length cap] w fun e w' => e = .returned (.int .i64 (validE g)) ∧ Below w.heap.size w w' := by
  have hs1 := hs.len
  by_cases h1 : g.length < 1
  · have hv : validE g = 3 := by unfold validE largeB; simp [h1]
    rw [hv]; clear hv
    go_enter Try.func25, Try.ntmps25
    go_wp2_with fail
    go_ret
    exact ⟨rfl, (Below.refl _ _).alloc (Nat.le_refl _) _⟩
  by_cases h2 : 10 < g.length
  · have hv : validE g = 3 := by unfold validE largeB; simp [h2]
    rw [hv]; clear hv
    go_enter Try.func25, Try.ntmps25
    go_wp2_with fail
    go_ret
    exact ⟨rfl, (Below.refl _ _).alloc (Nat.le_refl _) _⟩
  have HI := Lib.hid hin; clear hin
  cases h3 : g.any (fun r => decide (2 < r.length))
  · have hv : validE g = if argB g then 1 else 0 := by
      unfold validE; rw [show largeB g = false by unfold largeB; rw [h3, decide_eq_false h1, decide_eq_false h2]; rfl]; rfl
    have HC : Hid (∀ w', Below w.heap.size w w' → Calls Try.prog 59 #[.slice a g.length cap, .func (.func 60) #[] #[]] w' fun e w'' => e = .returned (.bool false) ∧ Below w'.heap.size w' w'') := Lib.hid fun w' hb => by
      rw [← h3]
      exact con_len2 g a cap _ w' (HI.out.below hb) hs1 (fun k _ a' cap' w'' _ => len2_any a' _ cap' w'')
    have HR : Hid (∀ k, k < g.length → ∀ a' cap' w', IntsIn w' a' (g.getD k []) → w'.cell? ⟨w.heap.size, 0, none⟩ = some (.slice a g.length cap) →
        Calls Try.prog 61 #[.slice a' (g.getD k []).length cap', .func (.func 62) #[] #[.pointer (some ⟨w.heap.size, 0, none⟩)]] w' fun e w'' => e = .returned (.bool ((g.getD k []).any (offB g.length))) ∧ Below w'.heap.size w' w'') := Lib.hid fun k _ a' cap' w' hi hc =>
      con_range ⟨w.heap.size, 0, none⟩ (g.getD k []) a' cap' (offB g.length) w' hi (hs.row k) (fun j _ w'' hb => off_any _ (.inl rfl) _ w.heap.size a g.length cap w'' (keep hc hb))
    have hfin : NoneYet g (fun r => r.any (offB g.length)) g.length → validE g = 0 := fun h => by rw [hv, show argB g = false from h.fin]; rfl
    have hhit : ∀ k, k < g.length → (g.getD k []).any (offB g.length) = true → validE g = 1 := fun k hk h => by
      rw [hv, show argB g = true from any_here (d := []) (p := fun r : List Int => r.any (offB g.length)) hk h]; rfl
    have HF := Lib.hid hfin; have HH := Lib.hid hhit
    clear hv hfin hhit h3 hs
    generalize validE g = V at *
    go_enter Try.func25, Try.ntmps25
    go_wp2_with fail
    refine (HC.out _ ((Below.refl _ _).alloc (Nat.le_refl _) _)).mono ?_; rintro e w1 ⟨rfl, hb1⟩
    have hc1 := bc hb1 (b := w.heap.size) (by simp)
    have hk1 : w1.cell? ⟨w.heap.size, 0, none⟩ = some (.slice a g.length cap) := by rw [hc1]; simp [go_sem]
    have HK := Lib.hid hk1
    have HB1 := Lib.hid (((Below.refl _ _).alloc (Nat.le_refl _) _).trans (hb1.mono (by simp)) : Below w.heap.size w w1)
    clear hc1 hb1
    go_wp2_with fail
    go_loopw [19] (fun i wr => ∃ k : Nat, k ≤ g.length ∧ i = .int .i64 k ∧ NoneYet g (fun r => r.any (offB g.length)) k ∧ Below w1.heap.size w1 wr) (fun i _ => g.length - (intOf i).toNat)
    case atStart => exact ⟨0, Nat.zero_le _, rfl, NoneYet.zero, Below.refl _ _⟩
    case round =>
      obtain ⟨k, hk, rfl, hny, hb⟩ := hrel
      by_cases hlt : k < g.length
      · obtain ⟨b, off, a', cap', rfl, hc, hi⟩ := (HI.out.below HB1.out).below hb k hlt
        have HCall := Lib.hid (HR.out k hlt a' cap' wr hi (keep HK.out hb))
        have HB := Lib.hid hb; have HN := Lib.hid hny
        clear hb hny hi hk1
        generalize hrow : g.getD k [] = row at *
        have HRow := Lib.hid hrow; clear hrow
        cases hany : row.any (offB g.length)
        · rw [hany] at HCall
          have HA := Lib.hid hany; clear hany
          go_wp2_with (first | (go_at_call 61; refine HCall.out.mono ?_; rintro e w2 ⟨rfl, hb2⟩))
          go_roundw
          case rel => exact ⟨k + 1, by omega, by go_num, HN.out.next (d := []) hlt (by rw [HRow.out]; exact HA.out), HB.out.trans (hb2.mono HB.out.size)⟩
          case measure => simp [intOf]; omega
        · rw [hany] at HCall
          have HA := Lib.hid hany; clear hany
          go_wp2_with (first | (go_at_call 61; refine HCall.out.mono ?_; rintro e w2 ⟨rfl, hb2⟩))
          go_ret
          exact ⟨ret_int (HH.out k hlt (by rw [HRow.out]; exact HA.out)).symm, (HB1.out.trans (HB.out.mono HB1.out.size)).trans (hb2.mono (HB1.out.trans (HB.out.mono HB1.out.size)).size)⟩
      · obtain rfl : k = g.length := by omega
        have HN := Lib.hid hny; clear hny
        go_wp2_with fail
        go_ret
        exact ⟨ret_int (HF.out HN.out).symm, HB1.out.trans (hb.mono HB1.out.size)⟩
  · have hv : validE g = 3 := by unfold validE largeB; rw [h3]; simp
    rw [hv]; clear hv
    have HC : Hid (∀ w', Below w.heap.size w w' → Calls Try.prog 59 #[.slice a g.length cap, .func (.func 60) #[] #[]] w' fun e w'' => e = .returned (.bool true) ∧ Below w'.heap.size w' w'') := Lib.hid fun w' hb => by
      rw [← h3]
      exact con_len2 g a cap _ w' (HI.out.below hb) hs1 (fun k _ a' cap' w'' _ => len2_any a' _ cap' w'')
    clear h3 hs
    go_enter Try.func25, Try.ntmps25
    go_wp2_with fail
    refine (HC.out _ ((Below.refl _ _).alloc (Nat.le_refl _) _)).mono ?_; rintro e w1 ⟨rfl, hb1⟩
    go_wp2_with fail
    go_ret
    exact ⟨rfl, ((Below.refl _ _).alloc (Nat.le_refl _) _).trans (hb1.mono (by simp))⟩
end Go.Proofs.Ytmljmmnofhhheaa
