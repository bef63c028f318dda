/- Walks of the document's Validate; the errors of nodes. -/
import Derived.Test.YtmljmmnofhhheaaW5
namespace Go.Proofs.Ytmljmmnofhhheaa
open Go.RowKit

set_option maxRecDepth 100000 in
set_option maxHeartbeats 1000000 in
theorem rValidate_any (g : List (List Int)) (a : Option Addr) (cap : Nat) (w : World) (hin : RowsIn w a g) (hs : Short g) :
    Calls Try.prog 26 #[.slice a g.length cap] w fun e w' => e = .returned (.int .i64 (validE g)) ∧ w = w' := by
  have hs1 := hs.len
  by_cases h1 : g.length < 1
  · have hv : validE g = 3 := by unfold validE largeB; simp [h1]
    rw [hv]; clear hv
    go_enter Try.func26, Try.ntmps26
    go_wp2_with fail
    go_ret
    exact ⟨rfl, rfl⟩
  by_cases h2 : 10 < g.length
  · have hv : validE g = 3 := by unfold validE largeB; simp [h2]
    rw [hv]; clear hv
    go_enter Try.func26, Try.ntmps26
    go_wp2_with fail
    go_ret
    exact ⟨rfl, rfl⟩
  have HI := Lib.hid hin; clear hin
  have hl3 : ∀ k, k < g.length → 2 < (g.getD k []).length → validE g = 3 := fun k hk h => by
    unfold validE
    rw [show largeB g = true by
      unfold largeB; rw [any_here (d := []) (p := fun r : List Int => decide (2 < r.length)) hk (by simpa using h)]; simp]
    rfl
  have hl1 : NoneYet g (fun r => decide (2 < r.length)) g.length → ∀ k, k < g.length → (g.getD k []).any (offB g.length) = true → validE g = 1 := fun hn k hk h => by
    unfold validE
    rw [show largeB g = false by unfold largeB; rw [hn.fin, decide_eq_false h1, decide_eq_false h2]; rfl, show argB g = true from any_here (d := []) (p := fun r : List Int => r.any (offB g.length)) hk h]
    rfl
  have hl0 : NoneYet g (fun r => decide (2 < r.length)) g.length → NoneYet g (fun r => r.any (offB g.length)) g.length → validE g = 0 := fun hn hk => by
    unfold validE
    rw [show largeB g = false by unfold largeB; rw [hn.fin, decide_eq_false h1, decide_eq_false h2]; rfl, show argB g = false from hk.fin]
    rfl
  have HL3 := Lib.hid hl3; have HL1 := Lib.hid hl1; have HL0 := Lib.hid hl0
  have HS := Lib.hid hs.row
  clear hl3 hl1 hl0 hs
  generalize validE g = V at *
  go_enter Try.func26, Try.ntmps26
  go_wp2_with fail
  go_loop [3] (fun i => ∃ k : Nat, k ≤ g.length ∧ i = .int .i64 k ∧ NoneYet g (fun r => decide (2 < r.length)) k) (fun i => g.length - (intOf i).toNat)
  case atStart => exact ⟨0, Nat.zero_le _, rfl, NoneYet.zero⟩
  case round =>
    obtain ⟨k, hk, rfl, hny⟩ := hrel
    by_cases hlt : k < g.length
    · obtain ⟨b, off, a', cap', rfl, hc, hi⟩ := HI.out k hlt
      have hrl := HS.out k
      have HN := Lib.hid hny
      clear hny hi
      generalize hrow : g.getD k [] = row at *
      have HRow := Lib.hid hrow; clear hrow
      by_cases h3 : 2 < row.length
      · go_wp2_with fail
        go_ret
        exact ⟨ret_int (HL3.out k hlt (by rw [HRow.out]; exact h3)).symm, rfl⟩
      · go_wp2_with fail
        go_round
        case rel => exact ⟨k + 1, by omega, by go_num, HN.out.next (d := []) hlt (by rw [HRow.out]; simpa using h3)⟩
        case measure => simp [intOf]; omega
    · obtain rfl : k = g.length := by omega
      have HN := Lib.hid hny; clear hny
      go_wp2_with fail
      go_loop [4, 5] (fun i _ => ∃ k : Nat, k ≤ g.length ∧ i = .int .i64 k ∧ NoneYet g (fun r => r.any (offB g.length)) k) (fun i _ => g.length - (intOf i).toNat)
      case atStart => exact ⟨0, Nat.zero_le _, rfl, NoneYet.zero⟩
      case round =>
        obtain ⟨k, hk, rfl, hny⟩ := hrel
        by_cases hlt2 : k < g.length
        · obtain ⟨b, off, a', cap', rfl, hc, hi⟩ := HI.out k hlt2
          have hrl := HS.out k
          have HN2 := Lib.hid hny; have HII := Lib.hid hi
          clear hny hi
          generalize hrow : g.getD k [] = row at *
          have HRow := Lib.hid hrow; clear hrow
          go_wp2_with fail
          go_loop [5] (fun i => ∃ j : Nat, j ≤ row.length ∧ i = .int .i64 j ∧ NoneYet row (offB g.length) j) (fun i => row.length - (intOf i).toNat)
          case atStart => exact ⟨0, Nat.zero_le _, rfl, NoneYet.zero⟩
          case round =>
            obtain ⟨j, hj, rfl, hnj⟩ := hrel
            by_cases hjl : j < row.length
            · obtain ⟨b2, off2, rfl, hx⟩ := HII.out j hjl
              have HNJ := Lib.hid hnj; clear hnj
              generalize hxx : row.getD j 0 = x at *
              have HXX := Lib.hid hxx; clear hxx
              by_cases hneg : x < 0
              · go_wp2_with fail
                go_ret
                exact ⟨ret_int (HL1.out HN.out k hlt2 (by rw [HRow.out]; exact any_here (d := 0) hjl (by rw [HXX.out]; simp [offB, hneg]))).symm, rfl⟩
              · by_cases hbig : (g.length : Int) ≤ x
                · go_wp2_with fail
                  go_ret
                  exact ⟨ret_int (HL1.out HN.out k hlt2 (by rw [HRow.out]; exact any_here (d := 0) hjl (by rw [HXX.out]; simp [offB, hbig]))).symm, rfl⟩
                · go_wp2_with fail
                  go_round
                  case rel => exact ⟨j + 1, by omega, by go_num, HNJ.out.next (d := 0) hjl (by rw [HXX.out]; simp [offB]; omega)⟩
                  case measure => simp [intOf]; omega
            · obtain rfl : j = row.length := by omega
              have HNJ := Lib.hid hnj; clear hnj
              go_wp2_with fail
              go_round
              case rel => exact ⟨k + 1, by omega, by go_num, HN2.out.next (d := []) hlt2 (by rw [HRow.out]; exact HNJ.out.fin)⟩
              case measure => simp [intOf]; omega
        · obtain rfl : k = g.length := by omega
          have HN2 := Lib.hid hny; clear hny
          go_wp2_with fail
          go_ret
          exact ⟨ret_int (HL0.out HN.out HN2.out).symm, rfl⟩
end Go.Proofs.Ytmljmmnofhhheaa
