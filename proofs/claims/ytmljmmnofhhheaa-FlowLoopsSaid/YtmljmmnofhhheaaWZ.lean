/- Walks of the document's Loop and Depth. -/
import Derived.Test.YtmljmmnofhhheaaWS
import Derived.Test.YtmljmmnofhhheaaWU
namespace Go.Proofs.Ytmljmmnofhhheaa
open Go.RowKit

theorem loopN_out {g : Gr} {v j : Nat} (ok : OkG g) (hv : v < g.length) (h : g.length ≤ j) : loopN g v j = false := by
  rw [← Bool.not_eq_true]
  intro c
  unfold loopN at c
  obtain ⟨e, _, _, h2⟩ := loopS_iff.1 c
  rcases h2 with rfl | ⟨_, h3, _⟩
  · omega
  · have := (rs_iff.1 h3).lt ok.fits ok.pos
    omega

set_option maxHeartbeats 1000000 in
theorem rLoopE_any (g : List (List Int)) (a : Option Addr) (cap : Nat) (v : Int) (w : World) (hin : RowsIn w a g) (hs : Short g) :
    Calls Try.prog 38 #[.slice a g.length cap, .int .i64 v] w (ListPost (loopE g v) (loopR g v) w) := by
  have hbl : Below w.heap.size w (w.alloc (.cells #[.int .i64 v] 3)) := (Below.refl _ _).alloc (Nat.le_refl _) _
  have HV := Lib.hid (rNode_any g a cap [v] _ 1 _ (hin.below hbl) hs (one_ints w v) (by simp))
  by_cases hv : nodeE g [v] = 0
  · have hval := node_valid hv
    have hvr := hval.2 v (by simp)
    obtain ⟨v, rfl⟩ := Int.eq_ofNat_of_zero_le hvr.1
    have hvl : v < (gN g).length := by rw [gN_len]; omega
    have ok := valid_ok hval.1
    have hn : loopR g v = setUpto (loopN (gN g) v) g.length := by
      unfold loopR
      rw [if_pos hv, Int.toNat_natCast, ← setUpto_ten (fun j hj => loopN_out ok hvl hj) ok.ten, gN_len]
    have he : loopE g v = if (setUpto (loopN (gN g) v) g.length).length = 0 then 9 else 0 := by unfold loopE; rw [if_pos hv, hn]
    have h10 : g.length ≤ 1000 := by have := ok.ten; rw [gN_len] at this; omega
    have HR : Hid (∀ w', Below w.heap.size w w' → Calls Try.prog 70 #[.slice a g.length cap, .int .i64 v] w' fun e w'' => ∃ u, e = .returned u ∧ BoolSl w'' u g.length (loopN (gN g) v) ∧ Below w'.heap.size w' w'') := Lib.hid fun w' hb => by
      have := rLoop_any a cap (gN g) v w' ((hin.graph hval.1).below hb) ok hvl
      rwa [gN_len] at this
    rw [hn, he]; rw [hv] at HV
    have HBl := Lib.hid hbl
    clear hin hs hv hn he hval hbl hvr hvl ok
    have HL : Hid (∀ w' u, BoolSl w' u g.length (loopN (gN g) v) → Calls Try.prog 50 #[u] w' fun e w'' => ∃ v', e = .returned v' ∧ NatSl w'' v' (setUpto (loopN (gN g) v) g.length) ∧ Below w'.heap.size w' w'') := Lib.hid fun w' u hu => rSet_any u g.length _ w' hu h10
    generalize loopN (gN g) v = S at *
    generalize hLL : setUpto S g.length = L at *
    clear hLL
    by_cases hl : L.length = 0
    · have HE : Hid ((if L.length = 0 then (9 : Int) else 0) = 9) := Lib.hid (if_pos hl)
      have hL0 : L = [] := List.length_eq_zero_iff.1 hl
      subst hL0
      go_enter Try.func38, Try.ntmps38
      go_wp2_with fail
      refine HV.out.mono ?_; rintro e w1 ⟨rfl, rfl⟩
      go_wp2_with fail
      refine (HR.out _ HBl.out).mono ?_; rintro e w2 ⟨u, rfl, hu, hb2⟩
      have HB2 := Lib.hid (HBl.out.trans (hb2.mono (by simp))); have HU := Lib.hid hu; clear hb2 hu
      go_wp2_with fail
      refine (HL.out _ _ HU.out).mono ?_; rintro e w3 ⟨v3, rfl, ⟨la, lc, rfl, _⟩, hb3⟩
      go_wp2_with fail
      go_ret2
      exact ⟨_, rfl, NatSl.nil _, HB2.out.trans (hb3.mono HB2.out.size)⟩
    · have HE : Hid ((if L.length = 0 then (9 : Int) else 0) = 0) := Lib.hid (if_neg hl)
      have hlb : ((L.length : Int) == 0) = false := by rw [beq_eq_false_iff_ne]; omega
      rw [HE.out]
      clear hl
      go_enter Try.func38, Try.ntmps38
      go_wp2_with fail
      refine HV.out.mono ?_; rintro e w1 ⟨rfl, rfl⟩
      go_wp2_with fail
      refine (HR.out _ HBl.out).mono ?_; rintro e w2 ⟨u, rfl, hu, hb2⟩
      have HB2 := Lib.hid (HBl.out.trans (hb2.mono (by simp))); have HU := Lib.hid hu; clear hb2 hu
      go_wp2_with fail
      refine (HL.out _ _ HU.out).mono ?_; rintro e w3 ⟨v3, rfl, ⟨la, lc, rfl, hn3⟩, hb3⟩
      have HN3 := Lib.hid hn3; clear hn3
      go_wp2_with fail
      go_ret2
      exact ⟨_, rfl, ⟨la, lc, rfl, HN3.out⟩, HB2.out.trans (hb3.mono HB2.out.size)⟩
  · have hn : loopR g v = [] := by unfold loopR; rw [if_neg hv]
    have he : loopE g v = nodeE g [v] := by unfold loopE; rw [if_neg hv]
    rw [hn, he]
    generalize nodeE g [v] = V at *
    have hvb : (V != 0) = true := by simpa using hv
    clear hv hn he
    have HBl := Lib.hid hbl
    clear hbl
    go_enter Try.func38, Try.ntmps38
    go_wp2_with fail
    refine HV.out.mono ?_; rintro e w1 ⟨rfl, rfl⟩
    go_wp2_with fail
    go_ret2
    exact ⟨_, rfl, NatSl.nil _, HBl.out⟩

set_option maxHeartbeats 1000000 in
theorem rDepth_any (g : List (List Int)) (a : Option Addr) (cap : Nat) (v : Int) (w : World) (hin : RowsIn w a g) (hs : Short g) :
    Calls Try.prog 40 #[.slice a g.length cap, .int .i64 v] w fun e w' => e = .returned (.tuple #[.int .i64 (depthR g v), .int .i64 (thereE g [v])]) ∧ Below w.heap.size w w' := by
  have hbl : Below w.heap.size w (w.alloc (.cells #[.int .i64 v] 3)) := (Below.refl _ _).alloc (Nat.le_refl _) _
  have HV := Lib.hid (rThere_any g a cap [v] _ 1 _ (hin.below hbl) hs (one_ints w v) (by simp))
  by_cases hv : thereE g [v] = 0
  · obtain ⟨hval, hr, _⟩ := there_parts hv
    have hvr := hr v (by simp)
    obtain ⟨v, rfl⟩ := Int.eq_ofNat_of_zero_le hvr.1
    have h10 : g.length ≤ 10 := by have := (valid_ok hval).ten; rwa [gN_len] at this
    have hvl : v < g.length := by omega
    have hvi : (v : Int) < (g.length : Int) := by omega
    have hn : depthR g v = depthN (gN g) v g.length := by unfold depthR; rw [if_pos hv, Int.toNat_natCast]
    have HR : Hid (∀ w' h, h < g.length → Below w.heap.size w w' → Calls Try.prog 70 #[.slice a g.length cap, .int .i64 (h : Nat)] w' fun e w'' => ∃ u, e = .returned u ∧ BoolSl w'' u g.length (loopN (gN g) h) ∧ Below w'.heap.size w' w'') := Lib.hid fun w' h hh hb => by
      have := rLoop_any a cap (gN g) h w' ((hin.graph hval).below hb) (valid_ok hval) (by rw [gN_len]; omega)
      rwa [gN_len] at this
    rw [hn]; rw [hv] at HV; rw [hv]
    have HBl := Lib.hid hbl
    clear hin hs hv hn hval hbl hvr hr
    go_enter Try.func40, Try.ntmps40
    go_wp2_with fail
    refine HV.out.mono ?_; rintro e w1 ⟨rfl, hb1⟩
    have HB1 := Lib.hid (HBl.out.trans (hb1.mono (by simp)))
    clear hb1
    go_wp2_with fail
    go_loopw [7, 8] (fun nv i wr => ∃ k : Nat, k ≤ g.length ∧ i = .int .i64 k ∧ nv = .int .i64 (depthN (gN g) v k : Nat) ∧ Below w.heap.size w wr) (fun _ i _ => g.length - (intOf i).toNat)
    case atStart => exact ⟨0, Nat.zero_le _, rfl, rfl, HB1.out⟩
    case round =>
      obtain ⟨k, hk, rfl, rfl, hb⟩ := hrel
      by_cases hlt : k < g.length
      · have HC := Lib.hid (HR.out wr k hlt hb)
        have hone := depthN_one (gN g) v k
        have hle := depthN_le (gN g) v k
        have HB := Lib.hid hb
        clear hb
        generalize hSS : loopN (gN g) k = S at *
        generalize depthN (gN g) v k = n at *
        clear hSS
        cases hs : S v
        · have HO : Hid (depthN (gN g) v (k + 1) = n) := Lib.hid (by rw [hone, hs]; rfl)
          have HS := Lib.hid hs
          clear hone hs
          go_wp2_with (first | (go_at_call 70; refine HC.out.mono ?_; rintro e w3 ⟨u, rfl, ⟨q3, c3, rfl, hu⟩, hb3⟩; have hcv := hu v hvl; rw [HS.out] at hcv; clear hu))
          go_roundw
          case rel => exact ⟨k + 1, by omega, by go_num, by rw [HO.out], HB.out.trans (hb3.mono HB.out.size)⟩
          case measure => simp [intOf]; omega
        · have HO : Hid (depthN (gN g) v (k + 1) = n + 1) := Lib.hid (by rw [hone, hs]; rfl)
          have HS := Lib.hid hs
          clear hone hs
          go_wp2_with (first | (go_at_call 70; refine HC.out.mono ?_; rintro e w3 ⟨u, rfl, ⟨q3, c3, rfl, hu⟩, hb3⟩; have hcv := hu v hvl; rw [HS.out] at hcv; clear hu))
          go_roundw
          case rel => exact ⟨k + 1, by omega, by go_num, by rw [HO.out]; go_num, HB.out.trans (hb3.mono HB.out.size)⟩
          case measure => simp [intOf]; omega
      · obtain rfl : k = g.length := by omega
        go_wp2_with fail
        go_ret2
        exact ⟨rfl, hb⟩
  · have hn : depthR g v = 0 := by unfold depthR; rw [if_neg hv]
    rw [hn]
    generalize thereE g [v] = V at *
    have hvb : (V != 0) = true := by simpa using hv
    clear hv hn
    go_enter Try.func40, Try.ntmps40
    go_wp2_with fail
    refine HV.out.mono ?_; rintro e w1 ⟨rfl, hb1⟩
    have hb1 := hbl.trans (hb1.mono (by simp))
    go_wp2_with fail
    go_ret2
    exact ⟨rfl, hb1⟩
end Go.Proofs.Ytmljmmnofhhheaa
