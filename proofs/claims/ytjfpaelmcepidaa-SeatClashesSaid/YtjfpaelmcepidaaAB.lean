/- The law SeatClashes. -/
import Derived.Test.YtjfpaelmcepidaaA9
import Derived.Test.YtjfpaelmcepidaaKN
import Derived.Deep.QuietTactic
import Derived.BigQuiet
namespace Go.Proofs.Ytjfpaelmcepidaa.PK
open Go.RowKit

set_option maxRecDepth 100000 in
set_option maxHeartbeats 1000000 in
theorem samePairs_self (l : StrL) (a a' : Option Addr) (cap cap' : Nat) (w : World) (hin : StrIn w a l) (hin' : StrIn w a' l) (hl : l.length ≤ 1000000) :
    Calls Try.prog 17 #[.slice a l.length cap, .slice a' l.length cap'] w fun e w' => e = .returned (.bool true) ∧ Below w.heap.size w w' := by
  have HI := Lib.hid hin; have HI' := Lib.hid hin'
  clear hin hin'
  have hn : ((l.length : Int) != (l.length : Int)) = false := by simp
  go_enter Try.func17, Try.ntmps17
  go_wp2_with fail
  go_loopw [5] (fun i wr => ∃ k : Nat, k ≤ l.length ∧ i = .int .i64 k ∧ Below w.heap.size w wr) (fun i _ => l.length - (intOf i).toNat)
  case atStart => exact ⟨0, Nat.zero_le _, rfl, Below.refl _ _⟩
  case round =>
    obtain ⟨k, hk, rfl, hb⟩ := hrel
    have HB := Lib.hid hb
    by_cases hlt : k < l.length
    · have hki : (k : Int) < l.length := by omega
      have hk0 : (0 : Int) ≤ (k : Int) := by omega
      obtain ⟨b1, o1, rfl, c1, c2⟩ := HI.out.below hb k hlt
      obtain ⟨b2, o2, rfl, d1, d2⟩ := HI'.out.below hb k hlt
      clear hb
      generalize (atH l k).1 = x at *
      generalize (atH l k).2 = y at *
      have hneq := neqH_run x y
      have hgd := fun op a b => guardH op a b x y x y
      go_wp2_with fail
      go_quiet (fail)
      go_wp2_with fail
      go_roundw
      case rel => exact ⟨k + 1, by omega, by go_num, HB.out.trans (below_drewN (Below.refl _ _) _)⟩
      case measure => simp [intOf]; omega
    · have hki : ¬ (k : Int) < l.length := by omega
      clear hb
      go_wp2_with fail
      go_ret
      exact ⟨rfl, HB.out⟩
set_option maxRecDepth 100000 in
set_option maxHeartbeats 1000000 in
theorem same03_any (xs : List Int) (a b : Option Addr) (ca cb : Nat) (w : World) (ha : IntsIn w a xs) (hb : IntsIn w b xs) (hl : xs.length ≤ 1000000) :
    Calls Try.prog 18 #[.slice a xs.length ca, .slice b xs.length cb] w fun e w' => e = .returned (.bool true) ∧ Below w.heap.size w w' := by
  have HA := Lib.hid ha; have HB := Lib.hid hb
  clear ha hb
  go_enter Try.func18, Try.ntmps18
  go_wp2_with fail
  go_loopw [5] (fun i wr => ∃ k : Nat, k ≤ xs.length ∧ i = .int .i64 k ∧ Below w.heap.size w wr) (fun i _ => xs.length - (intOf i).toNat)
  case atStart => exact ⟨0, Nat.zero_le _, rfl, Below.refl _ _⟩
  case round =>
    obtain ⟨k, hk, rfl, hbl⟩ := hrel
    by_cases hlt : k < xs.length
    · obtain ⟨b1, o1, rfl, h1⟩ := HA.out.below hbl k hlt
      obtain ⟨b2, o2, rfl, h2⟩ := HB.out.below hbl k hlt
      have HBl := Lib.hid hbl
      have hki : (k : Int) < (xs.length : Int) := by omega
      clear hbl
      generalize xs.getD k 0 = x at *
      have hb : (x != x) = false := by simp
      go_wp2_with fail
      go_quiet (fail)
      go_wp2_with fail
      go_roundw
      case rel => exact ⟨k + 1, by omega, by go_num, below_drewN HBl.out _⟩
      case measure => simp [intOf]; omega
    · have HBl := Lib.hid hbl
      clear hbl
      go_wp2_with fail
      go_ret
      exact ⟨rfl, HBl.out⟩

set_option maxRecDepth 100000 in
set_option maxHeartbeats 1000000 in
theorem rClash_bad (regs : Int) (ls : List (List Cd)) (L : List (List Int)) (bl : Option Addr) (cap : Nat) (w : World) (hv : progErrW regs ls ≠ 0) (hl : ls.length ≤ 500) (hlm : ∀ k, k < ls.length → (atB ls k).length ≤ 9223372036854775807) (hin : BlkIn w bl ls) :
    Calls Try.prog 14 #[.agg #[.int .i64 regs, .slice bl ls.length cap]] w (ClPost regs ls L w) := by
  have HV := Lib.hid (fun u (h : BlkIn u bl ls) => (rLive_bad regs ls bl cap u h hv hl hlm).mono fun e w' h => (⟨by have := h.1; rwa [if_neg hv] at this, h.2⟩ : e = .returned (.tuple #[.slice none 0 0, .int .i64 (progErrW regs ls)]) ∧ Below u.heap.size u w'))
  have HP : Hid (∀ w', Below w.heap.size w w' → ClPost regs ls L w (.returned (.tuple #[.slice none 0 0, .int .i64 (progErrW regs ls)])) w') := Lib.hid fun w' h => ⟨by rw [if_neg hv], h⟩
  have hne : (progErrW regs ls != 0) = true := bne_iff_ne.2 hv
  have HI := Lib.hid hin
  have h0 : (w.alloc (.cells #[.int .i64 regs, .slice bl ls.length cap] 24)).cell? ⟨w.heap.size, 0, none⟩ = some (.int .i64 regs) := by simp [go_sem]
  have h1 : (w.alloc (.cells #[.int .i64 regs, .slice bl ls.length cap] 24)).cell? ⟨w.heap.size, 1, none⟩ = some (.slice bl ls.length cap) := by simp [go_sem]
  have HB0 : Hid (Below w.heap.size w (w.alloc (.cells #[.int .i64 regs, .slice bl ls.length cap] 24))) := Lib.hid ((Below.refl _ _).alloc (Nat.le_refl _) _)
  generalize progErrW regs ls = pe at *
  clear hin hlm hl hv
  go_enter Try.func14, Try.ntmps14
  go_upto_region 1 with (fail)
  generalize w.alloc (.cells #[.int .i64 regs, .slice bl ls.length cap] 24) = w0 at *
  go_wp2_with fail
  refine (HV.out _ (HI.out.below HB0.out)).mono ?_; rintro e w1 ⟨rfl, hb1⟩
  have HF := Lib.hid (HP.out _ (HB0.out.trans (hb1.mono HB0.out.size)))
  clear hb1 h0 h1
  go_wp2_with fail
  go_ret2
  exact HF.out
theorem rClash_any (regs : Int) (ls : List (List Cd)) (L : List (List Int)) (bl : Option Addr) (cap : Nat) (w : World) (hl : ls.length ≤ 500) (hlm : ∀ k, k < ls.length → (atB ls k).length ≤ 9223372036854775807) (hL : LiveOf ls regs.toNat L) (hin : BlkIn w bl ls) :
    Calls Try.prog 14 #[.agg #[.int .i64 regs, .slice bl ls.length cap]] w (ClPost regs ls L w) := by
  by_cases hv : progErrW regs ls = 0
  · exact rClash_ok regs ls L bl cap w hv hlm hL hin
  · exact rClash_bad regs ls L bl cap w hv hl hlm hin
/-- What both Clash answer. -/
def ClIs (regs : Int) (ls : List (List Cd)) (L : List (List Int)) (l : StrL) : Prop := (progErrW regs ls = 0 → IsClash ls L l) ∧ (progErrW regs ls ≠ 0 → l = [])
theorem ClIs.unique {regs : Int} {ls : List (List Cd)} {L : List (List Int)} {l l' : StrL} (h : ClIs regs ls L l) (h' : ClIs regs ls L l') : l = l' := by
  by_cases h0 : progErrW regs ls = 0
  · exact (h.1 h0).unique (h'.1 h0)
  · rw [h.2 h0, h'.2 h0]
def ClShape (regs : Int) (ls : List (List Cd)) (L : List (List Int)) (w : World) (e : Ending) (w' : World) : Prop :=
  ∃ a c l, e = .returned (.tuple #[.slice a l.length c, .int .i64 (progErrW regs ls)]) ∧ StrIn w' a l ∧ ClIs regs ls L l ∧ l.length ≤ 1000000 ∧ Below w.heap.size w w'
theorem ClPost.shape {regs : Int} {ls : List (List Cd)} {L : List (List Int)} {w w' : World} {e : Ending} (h : ClPost regs ls L w e w') : ClShape regs ls L w e w' := by
  obtain ⟨h1, h2⟩ := h
  by_cases h0 : progErrW regs ls = 0
  · rw [if_pos h0] at h1
    obtain ⟨a, c, l, rfl, hi, hl, hs⟩ := h1
    exact ⟨a, c, l, by rw [h0], hs, ⟨fun _ => hi, fun h => absurd h0 h⟩, hl, h2⟩
  · rw [if_neg h0] at h1
    exact ⟨none, 0, [], h1, fun _ hk => absurd hk (Nat.not_lt_zero _), ⟨fun h => absurd h h0, fun _ => rfl⟩, Nat.zero_le _, h2⟩
def FrIs (regs : Int) (ls : List (List Cd)) (l : List Int) : Prop := (progErrW regs ls = 0 → IsFrm ls l) ∧ (progErrW regs ls ≠ 0 → l = [])
theorem FrIs.unique {regs : Int} {ls : List (List Cd)} {l l' : List Int} (h : FrIs regs ls l) (h' : FrIs regs ls l') : l = l' := by
  by_cases h0 : progErrW regs ls = 0
  · exact (h.1 h0).unique (h'.1 h0)
  · rw [h.2 h0, h'.2 h0]
def FrShape (regs : Int) (ls : List (List Cd)) (w : World) (e : Ending) (w' : World) : Prop :=
  ∃ a c l, e = .returned (.tuple #[.slice a l.length c, .int .i64 (progErrW regs ls)]) ∧ IntsIn w' a l ∧ FrIs regs ls l ∧ l.length ≤ 1000000 ∧ Below w.heap.size w w'
theorem FrPost.shape {regs : Int} {ls : List (List Cd)} {w w' : World} {e : Ending} (h : FrPost regs ls w e w') : FrShape regs ls w e w' := by
  obtain ⟨h1, h2⟩ := h
  by_cases h0 : progErrW regs ls = 0
  · rw [if_pos h0] at h1
    obtain ⟨a, c, l, rfl, hi, hl, hs⟩ := h1
    exact ⟨a, c, l, by rw [h0], hs, ⟨fun _ => hi, fun h => absurd h0 h⟩, hl, h2⟩
  · rw [if_neg h0] at h1
    exact ⟨none, 0, [], h1, fun _ hk => absurd hk (Nat.not_lt_zero _), ⟨fun h => absurd h h0, fun _ => rfl⟩, Nat.zero_le _, h2⟩
/-- What small answers says. -/
def SmPost (ls : List (List Cd)) (w : World) (e : Ending) (w' : World) : Prop := (∃ b : Bool, e = .returned (.bool b) ∧ (b = true → ls.length ≤ 30 ∧ ∀ k, k < ls.length → (atB ls k).length ≤ 60)) ∧ Below w.heap.size w w'
set_option maxRecDepth 100000 in
set_option maxHeartbeats 4000000 in
theorem small_any (regs : Int) (ls : List (List Cd)) (bl : Option Addr) (cap : Nat) (w : World) (hin : BlkIn w bl ls) (hl : ls.length ≤ 9223372036854775807) (hlm : ∀ k, k < ls.length → (atB ls k).length ≤ 9223372036854775807) :
    Calls Try.prog 5 #[.agg #[.int .i64 regs, .slice bl ls.length cap]] w (SmPost ls w) := by
  have HI := Lib.hid hin; have HLm := Lib.hid hlm
  have h0 : (w.alloc (.cells #[.int .i64 regs, .slice bl ls.length cap] 24)).cell? ⟨w.heap.size, 0, none⟩ = some (.int .i64 regs) := by simp [go_sem]
  have h1 : (w.alloc (.cells #[.int .i64 regs, .slice bl ls.length cap] 24)).cell? ⟨w.heap.size, 1, none⟩ = some (.slice bl ls.length cap) := by simp [go_sem]
  have HB0 : Hid (Below w.heap.size w (w.alloc (.cells #[.int .i64 regs, .slice bl ls.length cap] 24))) := Lib.hid ((Below.refl _ _).alloc (Nat.le_refl _) _)
  have HNo : Hid (∀ w', Below w.heap.size w w' → SmPost ls w (.returned (.bool false)) w') := Lib.hid fun w' h => ⟨⟨false, rfl, fun h => (by cases h)⟩, h⟩
  have HYes : Hid (∀ w', ls.length ≤ 30 → (∀ k, k < ls.length → (atB ls k).length ≤ 60) → Below w.heap.size w w' → SmPost ls w (.returned (.bool true)) w') := Lib.hid fun w' h1 h2 h3 => ⟨⟨true, rfl, fun _ => ⟨h1, h2⟩⟩, h3⟩
  clear hin hlm
  generalize SmPost ls w = PP at *
  generalize hn : ls.length = n at *
  have HN := Lib.hid hn; clear hn
  by_cases hr : 40 < regs ∧ regs ≤ 200
  · obtain ⟨hr1, hr2⟩ := hr
    go_enter Try.func5, Try.ntmps5
    go_upto_region 1 with (fail)
    generalize w.alloc (.cells #[.int .i64 regs, .slice bl n cap] 24) = w0 at *
    have HF := Lib.hid (HNo.out _ HB0.out)
    go_wp2_with fail
    exact HF.out
  by_cases hln : 30 < n
  · have hln2 : (30 : Int) < (n : Int) := by omega
    have hr3 : ¬ 40 < regs ∨ 40 < regs ∧ ¬ regs ≤ 200 := by omega
    clear hr
    rcases hr3 with hr1 | ⟨hr1, hr2⟩
    all_goals
      go_enter Try.func5, Try.ntmps5
      go_upto_region 1 with (fail)
      generalize w.alloc (.cells #[.int .i64 regs, .slice bl n cap] 24) = w0 at *
      have HF := Lib.hid (HNo.out _ HB0.out)
      go_wp2_with fail
      exact HF.out
  have hln2 : ¬ (30 : Int) < (n : Int) := by omega
  have hr3 : ¬ 40 < regs ∨ 40 < regs ∧ ¬ regs ≤ 200 := by omega
  clear hr
  rcases hr3 with hr1 | ⟨hr1, hr2⟩
  all_goals
    go_enter Try.func5, Try.ntmps5
    go_upto_region 1 with (fail)
    generalize w.alloc (.cells #[.int .i64 regs, .slice bl n cap] 24) = w0 at *
    go_wp2_with fail
    go_loopw [3] (fun i wr => ∃ k : Nat, k ≤ n ∧ i = .int .i64 k ∧ Hid (∀ j, j < k → (atB ls j).length ≤ 60) ∧ w0 = wr) (fun i _ => n - (intOf i).toNat)
    case atStart => exact ⟨0, Nat.zero_le _, rfl, Lib.hid fun j hj => absurd hj (Nat.not_lt_zero _), rfl⟩
    case round =>
      obtain ⟨k, hk, rfl, HAll, rfl⟩ := hrel
      by_cases hlt : k < n
      rotate_left
      · obtain rfl : k = n := by omega
        have HF := Lib.hid (HYes.out _ (by omega) HAll.out HB0.out)
        go_wp2_with fail
        exact HF.out
      have hki : (k : Int) < (n : Int) := by omega
      obtain ⟨cb, coff, ca, cc, hbe, hcell, _⟩ := (HI.out.below HB0.out) k (by rw [HN.out]; exact hlt)
      have hlk := HLm.out k hlt
      subst hbe
      by_cases h60 : 60 < (atB ls k).length
      · have h61 : (60 : Int) < ((atB ls k).length : Int) := by omega
        have HF := Lib.hid (HNo.out _ HB0.out)
        go_wp2_with fail
        exact HF.out
      · have h61 : ¬ (60 : Int) < ((atB ls k).length : Int) := by omega
        have HA2 : Hid (∀ j, j < k + 1 → (atB ls j).length ≤ 60) := Lib.hid fun j hj => by
          by_cases c : j = k
          · rw [c]; omega
          · exact HAll.out j (by omega)
        go_wp2_with fail
        go_roundw
        case rel => exact ⟨k + 1, by omega, by go_num, HA2, by trivial⟩
        case measure => simp [intOf]; omega
set_option maxRecDepth 100000 in
set_option maxHeartbeats 4000000 in
theorem seatClashes_any (regs : Int) (ls : List (List Cd)) (bl : Option Addr) (cap : Nat) (w : World) (hin : BlkIn w bl ls) (hl : ls.length ≤ 9223372036854775807) (hm : ∀ k, k < ls.length → (atB ls k).length ≤ 9223372036854775807) (him : ∀ k i, (atC (atB ls k) i).im < 4294967296) :
    Calls Try.prog 4 #[.agg #[.int .i64 regs, .slice bl ls.length cap]] w fun e w' => e = .returned (.bool true) ∧ Below w.heap.size w w' := by
  obtain ⟨L, hL⟩ := LiveOf.there ls regs.toNat
  have HS := Lib.hid (fun u (h : BlkIn u bl ls) => small_any regs ls bl cap u h hl hm)
  have HK := Lib.hid Go.Proofs.Ytjfpaelmcepidaa.known_any
  have HA := Lib.hid (fun u (h : BlkIn u bl ls) => (sClash_any regs ls L bl cap u hl hm hL h).mono fun _ _ h => h.shape)
  have HB := Lib.hid (fun (h0 : ls.length ≤ 500) u (h : BlkIn u bl ls) => (rClash_any regs ls L bl cap u h0 hm hL h).mono fun _ _ h => h.shape)
  have HC := Lib.hid (fun (h1 : ls.length ≤ 30) (h2 : ∀ k, k < ls.length → (atB ls k).length ≤ 60) u (h : BlkIn u bl ls) => (sFrame_any regs ls bl cap u hl h2 h1 h).mono fun _ _ h => h.shape)
  have HD := Lib.hid (fun (h1 : ls.length ≤ 30) (h2 : ∀ k, k < ls.length → (atB ls k).length ≤ 60) u (h : BlkIn u bl ls) => (rFrame_any regs ls bl cap u hl h2 h1 him h).mono fun _ _ h => h.shape)
  have HI2 : Hid (∀ W, Below w.heap.size w W → BlkIn W bl ls) := Lib.hid fun W h => hin.below h
  have HUc := Lib.hid (fun l l' => ClIs.unique (regs := regs) (ls := ls) (L := L) (l := l) (l' := l'))
  have HUf := Lib.hid (fun l l' => FrIs.unique (regs := regs) (ls := ls) (l := l) (l' := l'))
  clear hin hl hm him hL
  unfold ClShape at HA HB
  unfold FrShape at HC HD
  unfold SmPost at HS
  generalize progErrW regs ls = pe at *
  generalize ClIs regs ls L = IsC at *
  generalize FrIs regs ls = IsF at *
  go_enter Try.func4, Try.ntmps4
  go_upto_region 1 with (fail)
  generalize hw0 : w.alloc _ = w0
  generalize hq : w.heap.size = q at *
  have hb0 : Below q w w0 := by rw [← hw0, ← hq]; exact (Below.refl _ _).alloc (Nat.le_refl _) _
  have h0 : w0.cell? ⟨q, 0, none⟩ = some (.int .i64 regs) := by subst hw0 hq; simp [go_sem]
  have h1 : w0.cell? ⟨q, 1, none⟩ = some (.slice bl ls.length cap) := by subst hw0 hq; simp [go_sem]
  have HB0 := Lib.hid hb0; have HQ := Lib.hid hq
  have HZ : Hid (q ≤ w0.heap.size) := Lib.hid (by rw [← hq]; exact hb0.size)
  clear hw0 hq hb0
  go_wp2_with fail
  refine (HS.out _ (HI2.out _ HB0.out)).mono ?_; rintro e w1 ⟨⟨lo, rfl, hsm⟩, hb1⟩
  have HB1 := Lib.hid (HB0.out.trans (hb1.mono HZ.out)); have HZ1 : Hid (q ≤ w1.heap.size) := Lib.hid (Nat.le_trans HZ.out hb1.size)
  have k0 := keep h0 hb1; have k1 := keep h1 hb1
  have HSm := Lib.hid hsm
  clear h0 h1 hb1 hsm
  cases lo
  · go_wp2_with fail
    refine (HK.out _).mono ?_; rintro e w2 ⟨rfl, hb2⟩
    go_wp2_with fail
    go_ret
    exact ⟨rfl, by rw [HQ.out]; exact HB1.out.trans (hb2.mono HZ1.out)⟩
  obtain ⟨s1, s2⟩ := HSm.out rfl
  have HB' := Lib.hid (HB.out (by omega)); have HC' := Lib.hid (HC.out s1 s2); have HD' := Lib.hid (HD.out s1 s2)
  clear s2 HB HC HD HSm
  go_wp2_with fail
  refine (HA.out _ (HI2.out _ HB1.out)).mono ?_; rintro e w2 ⟨va, ca, l, rfl, hr2, hL2, hlen2, hb2⟩
  have HB2 := Lib.hid (HB1.out.trans (hb2.mono HZ1.out)); have HZ2 : Hid (q ≤ w2.heap.size) := Lib.hid (Nat.le_trans HZ1.out hb2.size)
  have m0 := keep k0 hb2; have m1 := keep k1 hb2
  have HR2 := Lib.hid hr2; have HL2 := Lib.hid hL2; have HN2 := Lib.hid hlen2
  clear k0 k1 hb2 hr2 hL2 hlen2
  go_wp2_with fail
  refine (HB'.out _ (HI2.out _ HB2.out)).mono ?_; rintro e w3 ⟨vb, cb, l', rfl, hr3, hL3, _, hb3⟩
  obtain rfl : l = l' := HUc.out l l' HL2.out hL3
  have HB3 := Lib.hid (HB2.out.trans (hb3.mono HZ2.out)); have HZ3 : Hid (q ≤ w3.heap.size) := Lib.hid (Nat.le_trans HZ2.out hb3.size)
  have n0 := keep m0 hb3; have n1 := keep m1 hb3
  have HR3 := Lib.hid hr3; have HR23 := Lib.hid (HR2.out.below hb3)
  clear m0 m1 hb3 hr3 hL3
  generalize hll : l.length = ll at *
  have HLl := Lib.hid hll; clear hll
  go_wp2_with fail
  refine (HC'.out _ (HI2.out _ HB3.out)).mono ?_; rintro e w4 ⟨vc, cc, f, rfl, hr4, hL4, hlen4, hb4⟩
  have HB4 := Lib.hid (HB3.out.trans (hb4.mono HZ3.out)); have HZ4 : Hid (q ≤ w4.heap.size) := Lib.hid (Nat.le_trans HZ3.out hb4.size)
  have o0 := keep n0 hb4; have o1 := keep n1 hb4
  have HR4 := Lib.hid hr4; have HL4 := Lib.hid hL4; have HN4 := Lib.hid hlen4
  have HR34 := Lib.hid (HR3.out.below hb4); have HR24 := Lib.hid (HR23.out.below hb4)
  clear n0 n1 hb4 hr4 hL4 hlen4
  go_wp2_with fail
  refine (HD'.out _ (HI2.out _ HB4.out)).mono ?_; rintro e w5 ⟨vd, cd, f', rfl, hr5, hL5, _, hb5⟩
  obtain rfl : f = f' := HUf.out f f' HL4.out hL5
  have HB5 := Lib.hid (HB4.out.trans (hb5.mono HZ4.out)); have HZ5 : Hid (q ≤ w5.heap.size) := Lib.hid (Nat.le_trans HZ4.out hb5.size)
  have HSP := Lib.hid (samePairs_self l va vb ca cb w5 (HR24.out.below hb5) (HR34.out.below hb5) (by rw [HLl.out]; exact HN2.out))
  rw [HLl.out] at HSP
  have HSI := Lib.hid (fun u (hu : Below w5.heap.size w5 u) => same03_any f vc vd cc cd u ((HR4.out.below hb5).below hu) (hr5.below hu) HN4.out)
  have hee : (pe == pe) = true := by simp
  clear hb5 hr5 hL5 o0 o1
  generalize f.length = fl at *
  go_wp2_with fail
  refine HSP.out.mono ?_; rintro e w6 ⟨rfl, hb6⟩
  have HSI2 := Lib.hid (HSI.out _ hb6)
  have HB6 := Lib.hid (HB5.out.trans (hb6.mono HZ5.out)); have HZ6 : Hid (q ≤ w6.heap.size) := Lib.hid (Nat.le_trans HZ5.out hb6.size)
  clear hb6
  go_wp2_with fail
  refine HSI2.out.mono ?_; rintro e w7 ⟨rfl, hb7⟩
  have HB7 := Lib.hid (HB6.out.trans (hb7.mono HZ6.out)); have HZ7 : Hid (q ≤ w7.heap.size) := Lib.hid (Nat.le_trans HZ6.out hb7.size)
  clear hb7
  go_wp2_with fail
  refine (HK.out _).mono ?_; rintro e w8 ⟨rfl, hb8⟩
  go_wp2_with fail
  go_ret
  exact ⟨rfl, by rw [HQ.out]; exact HB7.out.trans (hb8.mono HZ7.out)⟩
end Go.Proofs.Ytjfpaelmcepidaa.PK
