/- Walks of Loop, Depth. -/
import Derived.Test.YtmljmmnofhhheaaWR
namespace Go.Proofs.Ytmljmmnofhhheaa
open Go.RowKit

noncomputable def loopN (g : Gr) (v : Nat) : NSet := loopS g (backsL g) v
/-- What Loop answers. -/
noncomputable def loopR (g : List (List Int)) (v : Int) : List Nat := if nodeE g [v] = 0 then setL (loopN (gN g) v.toNat) else []
noncomputable def loopE (g : List (List Int)) (v : Int) : Int := if nodeE g [v] = 0 then (if (loopR g v).length = 0 then 9 else 0) else nodeE g [v]

set_option maxHeartbeats 1000000 in
theorem Loop_any (g : List (List Int)) (a : Option Addr) (cap : Nat) (v : Int) (w : World) (hin : RowsIn w a g) (hs : Short g) :
    Calls Try.prog 37 #[.slice a g.length cap, .int .i64 v] w (ListPost (loopE g v) (loopR g v) w) := by
  have hbl : Below w.heap.size w (w.alloc (.cells #[.int .i64 v] 3)) := (Below.refl _ _).alloc (Nat.le_refl _) _
  have HV := Lib.hid (noded_any g a cap [v] _ 1 _ (hin.below hbl) hs (one_ints w v) (by simp))
  by_cases hv : nodeE g [v] = 0
  · have hval := node_valid hv
    have hvr := hval.2 v (by simp)
    obtain ⟨v, rfl⟩ := Int.eq_ofNat_of_zero_le hvr.1
    have hn : loopR g v = setL (loopN (gN g) v) := by unfold loopR; rw [if_pos hv, Int.toNat_natCast]
    have he : loopE g v = if (setL (loopN (gN g) v)).length = 0 then 9 else 0 := by unfold loopE; rw [if_pos hv, hn]
    have HR : Hid (∀ w', Below w.heap.size w w' → Calls Try.prog 69 #[.slice a g.length cap, .int .i64 v] w' fun e w'' => e = .returned (tenV (loopN (gN g) v)) ∧ Below w'.heap.size w' w'') := Lib.hid fun w' hb => by
      have := loop_any a cap (gN g) v w' ((hin.graph hval.1).below hb) (valid_ok hval.1) (by rw [gN_len]; omega)
      rwa [gN_len] at this
    rw [hn, he]; rw [hv] at HV
    have HBl := Lib.hid hbl
    clear hin hs hv hn he hval hbl hvr
    have HL : Hid (∀ w', Calls Try.prog 45 #[tenV (loopN (gN g) v)] w' fun e w'' => ∃ v', e = .returned v' ∧ NatSl w'' v' (setL (loopN (gN g) v)) ∧ Below w'.heap.size w' w'') := Lib.hid fun w' => list_any _ w'
    generalize loopN (gN g) v = S at *
    generalize hLL : setL S = L at *
    clear hLL
    by_cases hl : L.length = 0
    · have HE : Hid ((if L.length = 0 then (9 : Int) else 0) = 9) := Lib.hid (if_pos hl)
      have hL0 : L = [] := List.length_eq_zero_iff.1 hl
      subst hL0
      go_enter Try.func37, Try.ntmps37
      go_wp2_with fail
      refine HV.out.mono ?_; rintro e w1 ⟨rfl, hb1⟩
      have hb1 := HBl.out.trans (hb1.mono (by simp))
      go_wp2_with fail
      refine (HR.out _ hb1).mono ?_; rintro e w2 ⟨rfl, hb2⟩
      have HB2 := Lib.hid (hb1.trans (hb2.mono hb1.size)); clear hb1 hb2
      go_wp2_with fail
      refine (HL.out _).mono ?_; rintro e w3 ⟨v3, rfl, ⟨la, lc, rfl, _⟩, hb3⟩
      go_wp2_with fail
      go_ret2
      exact ⟨_, rfl, NatSl.nil _, HB2.out.trans (hb3.mono HB2.out.size)⟩
    · have HE : Hid ((if L.length = 0 then (9 : Int) else 0) = 0) := Lib.hid (if_neg hl)
      have hlb : ((L.length : Int) == 0) = false := by rw [beq_eq_false_iff_ne]; omega
      rw [HE.out]
      clear hl
      go_enter Try.func37, Try.ntmps37
      go_wp2_with fail
      refine HV.out.mono ?_; rintro e w1 ⟨rfl, hb1⟩
      have hb1 := HBl.out.trans (hb1.mono (by simp))
      go_wp2_with fail
      refine (HR.out _ hb1).mono ?_; rintro e w2 ⟨rfl, hb2⟩
      have HB2 := Lib.hid (hb1.trans (hb2.mono hb1.size)); clear hb1 hb2
      go_wp2_with fail
      refine (HL.out _).mono ?_; rintro e w3 ⟨v3, rfl, ⟨la, lc, rfl, hn3⟩, hb3⟩
      have HN3 := Lib.hid hn3; clear hn3
      go_wp2_with fail
      go_ret2
      exact ⟨_, rfl, ⟨la, lc, rfl, HN3.out⟩, HB2.out.trans (hb3.mono HB2.out.size)⟩
  · have hn : loopR g v = [] := by unfold loopR; rw [if_neg hv]
    have he : loopE g v = nodeE g [v] := by unfold loopE; rw [if_neg hv]
    rw [hn, he]
    generalize nodeE g [v] = V at *
    have hvb : (V != 0) = true := by simpa using hv
    clear hv hn he
    go_enter Try.func37, Try.ntmps37
    go_wp2_with fail
    refine HV.out.mono ?_; rintro e w1 ⟨rfl, hb1⟩
    have hb1 := hbl.trans (hb1.mono (by simp))
    go_wp2_with fail
    go_ret2
    exact ⟨_, rfl, NatSl.nil _, hb1⟩

/-- In how many loops of the heads below k a node is. -/
noncomputable def depthN (g : Gr) (v k : Nat) : Nat := (setUpto (fun h => loopN g h v) k).length
noncomputable def depthR (g : List (List Int)) (v : Int) : Nat := if thereE g [v] = 0 then depthN (gN g) v.toNat g.length else 0
theorem depthN_one (g : Gr) (v k : Nat) : depthN g v (k + 1) = depthN g v k + (if loopN g k v then 1 else 0) := setUpto_one _ _
theorem depthN_le (g : Gr) (v k : Nat) : depthN g v k ≤ k := setUpto_len _ _

set_option maxHeartbeats 1000000 in
theorem Depth_any (g : List (List Int)) (a : Option Addr) (cap : Nat) (v : Int) (w : World) (hin : RowsIn w a g) (hs : Short g) :
    Calls Try.prog 39 #[.slice a g.length cap, .int .i64 v] w fun e w' => e = .returned (.tuple #[.int .i64 (depthR g v), .int .i64 (thereE g [v])]) ∧ Below w.heap.size w w' := by
  have hbl : Below w.heap.size w (w.alloc (.cells #[.int .i64 v] 3)) := (Below.refl _ _).alloc (Nat.le_refl _) _
  have HV := Lib.hid (reachedNodes_any g a cap [v] _ 1 _ (hin.below hbl) hs (one_ints w v) (by simp))
  by_cases hv : thereE g [v] = 0
  · obtain ⟨hval, hr, _⟩ := there_parts hv
    have hvr := hr v (by simp)
    obtain ⟨v, rfl⟩ := Int.eq_ofNat_of_zero_le hvr.1
    have h10 : g.length ≤ 10 := by have := (valid_ok hval).ten; rwa [gN_len] at this
    have hv10 : v < 10 := by omega
    have hn : depthR g v = depthN (gN g) v g.length := by unfold depthR; rw [if_pos hv, Int.toNat_natCast]
    have HR : Hid (∀ w' h, h < g.length → Below w.heap.size w w' → Calls Try.prog 69 #[.slice a g.length cap, .int .i64 (h : Nat)] w' fun e w'' => e = .returned (tenV (loopN (gN g) h)) ∧ Below w'.heap.size w' w'') := Lib.hid fun w' h hh hb => by
      have := loop_any a cap (gN g) h w' ((hin.graph hval).below hb) (valid_ok hval) (by rw [gN_len]; omega)
      rwa [gN_len] at this
    rw [hn]; rw [hv] at HV; rw [hv]
    have HBl := Lib.hid hbl
    clear hin hs hv hn hval hbl hvr hr
    go_enter Try.func39, Try.ntmps39
    go_wp2_with fail
    refine HV.out.mono ?_; rintro e w1 ⟨rfl, hb1⟩
    have HB1 := Lib.hid (HBl.out.trans (hb1.mono (by simp)))
    clear hb1
    go_wp2_with fail
    go_loopw [7, 18] (fun nv i wr => ∃ k : Nat, k ≤ g.length ∧ i = .int .i64 k ∧ nv = .int .i64 (depthN (gN g) v k : Nat) ∧ Below w.heap.size w wr) (fun _ i _ => g.length - (intOf i).toNat)
    case atStart => exact ⟨0, Nat.zero_le _, rfl, rfl, HB1.out⟩
    case round =>
      obtain ⟨k, hk, rfl, rfl, hb⟩ := hrel
      by_cases hlt : k < g.length
      · have HC := Lib.hid (HR.out wr k hlt hb)
        have hone := depthN_one (gN g) v k
        have hle := depthN_le (gN g) v k
        have HB := Lib.hid hb
        clear hb
        generalize hSS : loopN (gN g) k = S at *
        have hix := index_ten S v hv10
        generalize depthN (gN g) v k = n at *
        clear hSS
        unfold tenV bools at HC
        cases hs : S v
        · rw [hs] at hix
          have HO : Hid (depthN (gN g) v (k + 1) = n) := Lib.hid (by rw [hone, hs]; rfl)
          clear hone hs
          go_wp2_with (first | (go_at_call 69; refine HC.out.mono ?_; rintro e w3 ⟨rfl, hb3⟩))
          go_roundw
          case rel => exact ⟨k + 1, by omega, by go_num, by rw [HO.out], HB.out.trans (hb3.mono HB.out.size)⟩
          case measure => simp [intOf]; omega
        · rw [hs] at hix
          have HO : Hid (depthN (gN g) v (k + 1) = n + 1) := Lib.hid (by rw [hone, hs]; rfl)
          clear hone hs
          go_wp2_with (first | (go_at_call 69; refine HC.out.mono ?_; rintro e w3 ⟨rfl, hb3⟩))
          go_roundw
          case rel => exact ⟨k + 1, by omega, by go_num, by rw [HO.out]; go_num, HB.out.trans (hb3.mono HB.out.size)⟩
          case measure => simp [intOf]; omega
      · obtain rfl : k = g.length := by omega
        go_wp2_with fail
        go_ret2
        exact ⟨rfl, hb⟩
  · have hn : depthR g v = 0 := by unfold depthR; rw [if_neg hv]
    rw [hn]
    generalize thereE g [v] = V at *
    have hvb : (V != 0) = true := by simpa using hv
    clear hv hn
    go_enter Try.func39, Try.ntmps39
    go_wp2_with fail
    refine HV.out.mono ?_; rintro e w1 ⟨rfl, hb1⟩
    have hb1 := hbl.trans (hb1.mono (by simp))
    go_wp2_with fail
    go_ret2
    exact ⟨rfl, hb1⟩
end Go.Proofs.Ytmljmmnofhhheaa
