/- The law FlowLoops. -/
import Derived.Test.YtmljmmnofhhheaaL6
import Derived.Test.YtmljmmnofhhheaaWZ
namespace Go.Proofs.Ytmljmmnofhhheaa
open Go.RowKit

theorem loopR_len (g : List (List Int)) (v : Int) : (loopR g v).length ≤ 1000 := by
  unfold loopR
  split
  · exact Nat.le_trans (setUpto_len _ 10) (by decide)
  · simp
theorem backsR_len (g : List (List Int)) : (backsR g).length ≤ 1000 := by
  unfold backsR
  split
  · exact edgesL_len (valid_ok ‹_›)
  · simp
/-- A head is above the nodes of its loop. -/
theorem loop_dom {g : Gr} (ok : OkG g) {v j : Nat} (h : loopN g v j = true) : rs g (-1) 0 v = true ∧ rs g (-1) 0 j = true ∧ domB g v j = true := by
  unfold loopN at h
  obtain ⟨⟨x, y⟩, he, h1, h2⟩ := loopS_iff.1 h
  obtain rfl : y = v := h1
  obtain ⟨hx, hgo, hd⟩ := (mem_edgesL ok).1 he
  have hrv : rs g (-1) 0 y = true := rs_iff.2 ((rs_iff.1 hx).step (goesI_mem.1 hgo) (not_but y))
  refine ⟨hrv, ?_⟩
  rcases h2 with rfl | ⟨hne, hrj, hw⟩
  · exact ⟨hrv, dom_refl g j⟩
  · refine ⟨hrj, dom_iff.2 (.inr fun c => ?_)⟩
    have hd' : domB g y x = true := hd
    rcases dom_iff.1 hd' with e | e
    · subst e
      exact hw.fin rfl
    · exact e (c.trans hw)
theorem loopR_dom {g : List (List Int)} {v : Int} {k : Nat} (hk : k < (loopR g v).length) : thereE g [v, ((loopR g v).getD k 0 : Nat)] = 0 ∧ domR g v ((loopR g v).getD k 0 : Nat) = true := by
  have hm : (loopR g v).getD k 0 ∈ loopR g v := getD_mem hk
  generalize (loopR g v).getD k 0 = j at *
  unfold loopR at hm
  split at hm
  · rename_i hn
    obtain ⟨hv, hr⟩ := node_valid hn
    obtain ⟨v, rfl⟩ := Int.eq_ofNat_of_zero_le (hr v (by simp)).1
    rw [Int.toNat_natCast, setL_mem] at hm
    obtain ⟨h1, h2, h3⟩ := loop_dom (valid_ok hv) hm.2
    exact dom_vals hv h1 h2 h3
  · cases hm

set_option maxRecDepth 100000 in
set_option maxHeartbeats 4000000 in
theorem flowLoops_any (g : List (List Int)) (ga : Option Addr) (cap : Nat) (v : Int) (w : World) (hin : RowsIn w ga g) (hl : g.length ≤ maxLen) (hr : ∀ k, k < g.length → (g.getD k []).length ≤ maxLen) :
    Calls Try.prog 10 #[.slice ga g.length cap, .int .i64 v] w fun e w' => e = .returned (.bool true) ∧ Below w.heap.size w w' := by
  have HL := Lib.hid (long_any g ga cap w hin hl hr)
  cases hlong : longB g
  · rw [hlong] at HL
    have hs := short_of_long hlong
    have HA := Lib.hid (Backs_any g ga cap w hin hs)
    have HA2 : Hid (∀ w', Below w.heap.size w w' → Calls Try.prog 36 #[.slice ga g.length cap] w' (PairsPost (validE g) (backsR g) w')) := Lib.hid fun w' hb => rrBacks_any g ga cap w' (hin.below hb) hs
    have HC : Hid (∀ w', Below w.heap.size w w' → Calls Try.prog 37 #[.slice ga g.length cap, .int .i64 v] w' (ListPost (loopE g v) (loopR g v) w')) := Lib.hid fun w' hb => Loop_any g ga cap v w' (hin.below hb) hs
    have HC2 : Hid (∀ w', Below w.heap.size w w' → Calls Try.prog 38 #[.slice ga g.length cap, .int .i64 v] w' (ListPost (loopE g v) (loopR g v) w')) := Lib.hid fun w' hb => rLoopE_any g ga cap v w' (hin.below hb) hs
    have HD : Hid (∀ w', Below w.heap.size w w' → Calls Try.prog 39 #[.slice ga g.length cap, .int .i64 v] w' fun e w'' => e = .returned (.tuple #[.int .i64 (depthR g v), .int .i64 (thereE g [v])]) ∧ Below w'.heap.size w' w'') := Lib.hid fun w' hb => Depth_any g ga cap v w' (hin.below hb) hs
    have HD2 : Hid (∀ w', Below w.heap.size w w' → Calls Try.prog 40 #[.slice ga g.length cap, .int .i64 v] w' fun e w'' => e = .returned (.tuple #[.int .i64 (depthR g v), .int .i64 (thereE g [v])]) ∧ Below w'.heap.size w' w'') := Lib.hid fun w' hb => rDepth_any g ga cap v w' (hin.below hb) hs
    have HDom : Hid (∀ w' k, k < (loopR g v).length → Below w.heap.size w w' → Calls Try.prog 29 #[.slice ga g.length cap, .int .i64 v, .int .i64 ((loopR g v).getD k 0 : Nat)] w' fun e w'' => e = .returned (.tuple #[.bool true, .int .i64 0]) ∧ Below w'.heap.size w' w'') := Lib.hid fun w' k hk hb => by
      have := Dominates_any g ga cap v ((loopR g v).getD k 0 : Nat) w' (hin.below hb) hs
      obtain ⟨e1, e2⟩ := loopR_dom hk
      rwa [e1, e2] at this
    have HK := Lib.hid known_any
    have hl1 := backsR_len g
    have hl2 := loopR_len g v
    clear hin hl hr hs hlong
    generalize validE g = E at *
    generalize thereE g [v] = T at *
    generalize loopE g v = LE at *
    generalize loopR g v = L at *
    generalize backsR g = B at *
    generalize depthR g v = D at *
    have hEE : (E == E) = true := by simp
    have hTT : (T == T) = true := by simp
    have hLL : (LE == LE) = true := by simp
    have hDD : ((D : Int) == (D : Int)) = true := by simp
    go_enter Try.func10, Try.ntmps10
    go_wp2_with fail
    refine HL.out.mono ?_; rintro e w1 ⟨rfl, rfl⟩
    go_wp2_with fail
    refine HA.out.mono ?_; rintro e w2 ⟨v2, rfl, h2, hb2⟩
    have H2 := Lib.hid h2; have HBa := Lib.hid hb2; clear h2 hb2
    go_wp2_with fail
    refine (HA2.out _ HBa.out).mono ?_; rintro e w3 ⟨v3, rfl, h3, hb3⟩
    have H2b := Lib.hid (H2.out.below hb3); have H3 := Lib.hid h3; have HBb := Lib.hid (HBa.out.trans (hb3.mono HBa.out.size)); clear h3 hb3 H2
    go_wp2_with fail
    refine (HC.out _ HBb.out).mono ?_; rintro e w4 ⟨v4, rfl, h4, hb4⟩
    have H2c := Lib.hid (H2b.out.below hb4); have H3b := Lib.hid (H3.out.below hb4); have H4 := Lib.hid h4; have HBc := Lib.hid (HBb.out.trans (hb4.mono HBb.out.size)); clear h4 hb4 H2b H3
    go_wp2_with fail
    refine (HC2.out _ HBc.out).mono ?_; rintro e w5 ⟨v5, rfl, h5, hb5⟩
    have H2d := Lib.hid (H2c.out.below hb5); have H3c := Lib.hid (H3b.out.below hb5); have H4b := Lib.hid (H4.out.below hb5); have H5 := Lib.hid h5; have HBd := Lib.hid (HBc.out.trans (hb5.mono HBc.out.size)); clear h5 hb5 H2c H3b H4
    go_wp2_with fail
    refine (HD.out _ HBd.out).mono ?_; rintro e w6 ⟨rfl, hb6⟩
    have H2e := Lib.hid (H2d.out.below hb6); have H3d := Lib.hid (H3c.out.below hb6); have H4c := Lib.hid (H4b.out.below hb6); have H5b := Lib.hid (H5.out.below hb6); have HBe := Lib.hid (HBd.out.trans (hb6.mono HBd.out.size)); clear hb6 H2d H3c H4b H5
    go_wp2_with fail
    refine (HD2.out _ HBe.out).mono ?_; rintro e w7 ⟨rfl, hb7⟩
    obtain ⟨a2, c2, rfl, n2⟩ := pairsIn_of (H2e.out.below hb7)
    obtain ⟨a3, c3, rfl, n3⟩ := pairsIn_of (H3d.out.below hb7)
    obtain ⟨a4, c4, rfl, n4⟩ := natsIn_of (H4c.out.below hb7)
    obtain ⟨a5, c5, rfl, n5⟩ := natsIn_of (H5b.out.below hb7)
    have HBf := Lib.hid (HBe.out.trans (hb7.mono HBe.out.size))
    have HS1 := Lib.hid (sameEdges_self B a2 a3 c2 c3 _ n2 n3 hl1)
    have HN4 := Lib.hid n4; have HN5 := Lib.hid n5
    clear n2 n3 n4 n5 hb7 H2e H3d H4c H5b
    go_wp2_with fail
    refine HS1.out.mono ?_; rintro e w8 ⟨rfl, hb8⟩
    have HBg := Lib.hid (HBf.out.trans (hb8.mono HBf.out.size))
    have HN4b := Lib.hid (HN4.out.below hb8)
    have HS2 := Lib.hid (sameInts_self L a4 a5 c4 c5 _ (HN4.out.below hb8) (HN5.out.below hb8) hl2)
    clear hb8 HN4 HN5
    go_wp2_with fail
    refine HS2.out.mono ?_; rintro e w9 ⟨rfl, hb9⟩
    have HBh := Lib.hid (HBg.out.trans (hb9.mono HBg.out.size))
    have HN4 := Lib.hid (HN4b.out.below hb9)
    clear hb9 HN4b
    go_wp2_with fail
    go_loopw [17] (fun i wr => ∃ k : Nat, k ≤ L.length ∧ i = .int .i64 k ∧ Below w.heap.size w wr ∧ Below w9.heap.size w9 wr) (fun i _ => L.length - (intOf i).toNat)
    case atStart => exact ⟨0, Nat.zero_le _, rfl, HBh.out, Below.refl _ _⟩
    case round =>
      obtain ⟨k, hk, rfl, hb, hb9⟩ := hrel
      by_cases hlt : k < L.length
      · have hki : (k : Int) < (L.length : Int) := by omega
        obtain ⟨b, off, rfl, hc⟩ := (HN4.out.below hb9) k hlt
        have HDk := Lib.hid (HDom.out wr k hlt hb)
        have HBw := Lib.hid hb; have HB9 := Lib.hid hb9
        clear hb hb9
        generalize L.getD k 0 = x at *
        go_wp2_with fail
        refine HDk.out.mono ?_; rintro e w10 ⟨rfl, hb10⟩
        have HBx := Lib.hid (HBw.out.trans (hb10.mono HBw.out.size)); have HB9x := Lib.hid (HB9.out.trans (hb10.mono HB9.out.size))
        clear hb10
        go_wp2_with fail
        go_roundw
        case rel => exact ⟨k + 1, by omega, by go_num, HBx.out, HB9x.out⟩
        case measure => simp [intOf]; omega
      · obtain rfl : k = L.length := by omega
        have HBw := Lib.hid hb
        clear hb hb9
        go_wp2_with fail
        refine (HK.out _).mono ?_; rintro e w11 ⟨rfl, hb11⟩
        go_wp2_with fail
        go_ret
        exact ⟨rfl, HBw.out.trans (hb11.mono HBw.out.size)⟩
  · rw [hlong] at HL
    have HK := Lib.hid known_any
    clear hin hl hr hlong
    go_enter Try.func10, Try.ntmps10
    go_wp2_with fail
    refine HL.out.mono ?_; rintro e w1 ⟨rfl, rfl⟩
    go_wp2_with fail
    refine (HK.out _).mono ?_; rintro e w2 ⟨rfl, hb2⟩
    go_wp2_with fail
    go_ret
    exact ⟨rfl, hb2⟩
end Go.Proofs.Ytmljmmnofhhheaa
