/- The law FlowOrders. -/
import Derived.Test.YtmljmmnofhhheaaL3
import Derived.Test.YtmljmmnofhhheaaM7
namespace Go.Proofs.Ytmljmmnofhhheaa
open Go.RowKit

theorem orderR_len (g : List (List Int)) : (orderR g).length ≤ 1000 := by
  unfold orderR
  split
  · have := leftL_len (valid_ok ‹_›)
    unfold orderL
    rw [List.length_reverse]
    omega
  · simp
theorem order_reached {g : List (List Int)} : (orderR g).length = (reachedL g).length := by
  unfold orderR reachedL
  split
  · rename_i h
    have ok := valid_ok h
    refine nodup_len (order_nodup ok) (List.Pairwise.filter _ List.nodup_range) fun j => ?_
    rw [order_mem ok]
    unfold setL setUpto
    rw [List.mem_filter, List.mem_range]
    refine ⟨fun hj => ⟨?_, hj⟩, fun hj => hj.2⟩
    have := (rs_iff.1 hj).lt ok.fits ok.pos
    have := ok.ten
    omega
  · rfl
theorem order_zero {g : List (List Int)} (h : validE g = 0) : ∃ l, orderR g = 0 :: l := by
  unfold orderR
  rw [if_pos h]
  exact order_first (valid_ok h)

set_option maxRecDepth 100000 in
set_option maxHeartbeats 2000000 in
theorem flowOrders_any (g : List (List Int)) (ga : Option Addr) (cap : Nat) (w : World) (hin : RowsIn w ga g) (hl : g.length ≤ maxLen) (hr : ∀ k, k < g.length → (g.getD k []).length ≤ maxLen) :
    Calls Try.prog 4 #[.slice ga g.length cap] w fun e w' => e = .returned (.bool true) ∧ Below w.heap.size w w' := by
  have HL := Lib.hid (long_any g ga cap w hin hl hr)
  cases hlong : longB g
  · rw [hlong] at HL
    have hs := short_of_long hlong
    have HO := Lib.hid (Order_any g ga cap w hin hs)
    have HO2 : Hid (∀ w', Below w.heap.size w w' → Calls Try.prog 19 #[.slice ga g.length cap] w' (ListPost (validE g) (orderR g) w')) := Lib.hid fun w' hb => rOrder_any g ga cap w' (hin.below hb) hs
    have HR : Hid (∀ w', Below w.heap.size w w' → Calls Try.prog 20 #[.slice ga g.length cap] w' (ListPost (validE g) (reachedL g) w')) := Lib.hid fun w' hb => Reached_any g ga cap w' (hin.below hb) hs
    have HK := Lib.hid known_any
    have hl1 := orderR_len g
    have HLen : Hid ((orderR g).length = (reachedL g).length) := Lib.hid order_reached
    have HZ : Hid (validE g = 0 → ∃ l, orderR g = 0 :: l) := Lib.hid order_zero
    clear hin hl hr hs hlong
    generalize validE g = E at *
    generalize reachedL g = R at *
    generalize orderR g = O at *
    have hEE : (E == E) = true := by simp
    have hlr : ((O.length : Int) == (R.length : Int)) = true := by simp [HLen.out]
    clear HLen
    go_enter Try.func4, Try.ntmps4
    go_wp2_with fail
    refine HL.out.mono ?_; rintro e w1 ⟨rfl, rfl⟩
    go_wp2_with fail
    refine HO.out.mono ?_; rintro e w2 ⟨v2, rfl, h2, hb2⟩
    have H2 := Lib.hid h2; have HBa := Lib.hid hb2; clear h2 hb2
    go_wp2_with fail
    refine (HO2.out _ HBa.out).mono ?_; rintro e w3 ⟨v3, rfl, h3, hb3⟩
    have H2b := Lib.hid (H2.out.below hb3); have H3 := Lib.hid h3; have HBb := Lib.hid (HBa.out.trans (hb3.mono HBa.out.size)); clear h3 hb3
    go_wp2_with fail
    refine (HR.out _ HBb.out).mono ?_; rintro e w4 ⟨v4, rfl, h4, hb4⟩
    obtain ⟨a2, c2, rfl, n2⟩ := natsIn_of (H2b.out.below hb4)
    obtain ⟨a3, c3, rfl, n3⟩ := natsIn_of (H3.out.below hb4)
    obtain ⟨a4, c4, rfl, n4⟩ := natsIn_of h4
    have HBc := Lib.hid (HBb.out.trans (hb4.mono HBb.out.size))
    have HS := Lib.hid (sameInts_self O a2 a3 c2 c3 _ n2 n3 hl1)
    have HN2 := Lib.hid n2
    clear n2 n3 n4 hb4 h4
    go_wp2_with fail
    refine HS.out.mono ?_; rintro e w5 ⟨rfl, hb5⟩
    have HBd := Lib.hid (HBc.out.trans (hb5.mono HBc.out.size))
    have HN2b := Lib.hid (HN2.out.below hb5)
    clear hb5
    by_cases hE : E = 0
    · subst hE
      obtain ⟨l, rfl⟩ := HZ.out rfl
      obtain ⟨b, off, rfl, hc⟩ := HN2b.out 0 (by simp)
      have hpos : ((((0 : Nat) :: l).length : Int) > 0) := by simp
      have hc0 : w5.cell? ⟨b, off, none⟩ = some (.int .i64 0) := hc
      clear hc
      generalize hn : ((0 : Nat) :: l).length = n at *
      go_wp2_with fail
      refine (HK.out _).mono ?_; rintro e w10 ⟨rfl, hb10⟩
      go_wp2_with fail
      go_ret
      exact ⟨rfl, HBd.out.trans (hb10.mono HBd.out.size)⟩
    · have hE0 : (E == 0) = false := by rw [beq_eq_false_iff_ne]; exact hE
      go_wp2_with fail
      refine (HK.out _).mono ?_; rintro e w10 ⟨rfl, hb10⟩
      go_wp2_with fail
      go_ret
      exact ⟨rfl, HBd.out.trans (hb10.mono HBd.out.size)⟩
  · rw [hlong] at HL
    have HK := Lib.hid known_any
    clear hin hl hr hlong
    go_enter Try.func4, Try.ntmps4
    go_wp2_with fail
    refine HL.out.mono ?_; rintro e w1 ⟨rfl, rfl⟩
    go_wp2_with fail
    refine (HK.out _).mono ?_; rintro e w2 ⟨rfl, hb2⟩
    go_wp2_with fail
    go_ret
    exact ⟨rfl, hb2⟩
end Go.Proofs.Ytmljmmnofhhheaa
