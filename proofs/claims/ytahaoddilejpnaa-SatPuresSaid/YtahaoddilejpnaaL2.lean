/- The law SatAssigns. -/
import Derived.Test.YtahaoddilejpnaaHF
import Derived.Test.YtahaoddilejpnaaL1
namespace Go.Proofs.Ytahaoddilejpnaa
open Go.RowKit

theorem assignR_short {n l : Int} {g : List (List Int)} (hs : Short g) : Short (assignR n g l) := by
  unfold assignR
  split
  · split
    · refine ⟨Nat.le_trans (assign_len l g) hs.len, fun k hk => ?_⟩
      have hm := getD_mem _ [] k hk
      unfold assignL at hm
      obtain ⟨x, hx, e⟩ := List.mem_map.1 hm
      have hx2 := (List.mem_filter.1 hx).1
      obtain ⟨j, hj, rfl⟩ := List.mem_iff_getElem.1 hx2
      have := hs.row j hj
      rw [List.getD_eq_getElem?_getD, List.getElem?_eq_getElem hj] at this
      unfold assignL
      rw [← e]
      exact Nat.le_trans (filter_len _ _) this
    · exact ⟨Nat.zero_le _, fun k hk => absurd hk (Nat.not_lt_zero _)⟩
  · exact ⟨Nat.zero_le _, fun k hk => absurd hk (Nat.not_lt_zero _)⟩
set_option maxRecDepth 100000 in
set_option maxHeartbeats 1000000 in
theorem satAssigns_any (n l : Int) (g : List (List Int)) (a : Option Addr) (cap : Nat) (w : World) (hin : RowsIn w a g) (hg : g.length ≤ maxLen) (hr : ∀ k, k < g.length → (g.getD k []).length ≤ maxLen) :
    Calls Try.prog 7 #[.int .i64 n, .slice a g.length cap, .int .i64 l] w fun e w' => e = .returned (.bool true) ∧ Below w.heap.size w w' := by
  have HL := Lib.hid (long_any n g a cap w hin hg hr)
  have HK := Lib.hid known_any
  cases hlo : longB n g
  rotate_left
  · rw [hlo] at HL
    clear hin hg hr hlo
    generalize g.length = p at *
    go_enter Try.func7, Try.ntmps7
    go_wp2_with fail
    refine HL.out.mono ?_; rintro e w2 ⟨rfl, rfl⟩
    go_wp2_with fail
    refine (HK.out _).mono ?_; rintro e w2 ⟨rfl, hb2⟩
    go_wp2_with fail
    go_ret
    exact ⟨rfl, hb2⟩
  rw [hlo] at HL
  have hs := short_of hlo
  have HA := Lib.hid (sAssign_any n l g a cap w hin hs)
  have HB : Hid (∀ W, Below w.heap.size w W → Calls Try.prog 24 #[.int .i64 n, .slice a g.length cap, .int .i64 l] W fun e w' => (∃ v, e = .returned (.tuple #[v, .int .i64 (assignE n g l)]) ∧ RowsOwn w' W.heap.size v (assignR n g l)) ∧ Below W.heap.size W w') :=
    Lib.hid fun W hb => rAssign_any n l g a cap W (hin.below hb) hs
  have HSm := Lib.hid (assignR_short (n := n) (l := l) hs)
  clear hin hg hr hlo hs
  generalize assignE n g l = x at *
  generalize assignR n g l = y at *
  generalize g.length = p at *
  have hx : (x == x) = true := by simp
  go_enter Try.func7, Try.ntmps7
  go_wp2_with fail
  refine HL.out.mono ?_; rintro e w2 ⟨rfl, rfl⟩
  go_wp2_with fail
  refine HA.out.mono ?_; rintro e w2 ⟨⟨v2, rfl, hv2⟩, hb2⟩
  have HB2 := Lib.hid hb2; have HV2 := Lib.hid hv2; clear hb2 hv2
  go_wp2_with fail
  refine (HB.out _ HB2.out).mono ?_; rintro e w3 ⟨⟨v3, rfl, hv3⟩, hb3⟩
  have HB3 := Lib.hid (HB2.out.trans (hb3.mono HB2.out.size))
  obtain ⟨a2, c2, rfl, hr2⟩ := (HV2.out.below hb3).rows
  obtain ⟨a3, c3, rfl, hr3⟩ := hv3.rows
  have HS := Lib.hid (sameLists_any y a2 a3 c2 c3 w3 hr2 hr3 HSm.out)
  clear hb3 hv3 hr2 hr3
  go_wp2_with fail
  refine HS.out.mono ?_; rintro e w4 ⟨rfl, hb4⟩
  have HB4 := Lib.hid (HB3.out.trans (hb4.mono HB3.out.size)); clear hb4
  go_wp2_with fail
  refine (HK.out _).mono ?_; rintro e w5 ⟨rfl, hb5⟩
  go_wp2_with fail
  go_ret
  exact ⟨rfl, HB4.out.trans (hb5.mono HB4.out.size)⟩
end Go.Proofs.Ytahaoddilejpnaa
