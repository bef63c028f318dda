/- The law PickPrograms. -/
import Derived.Test.YtoldgjieplblpaaGreatP1
namespace Go.Proofs.YtoldgjieplblpaaGreat.PK
open Go.RowKit

def longP (ls : List (List Cd)) : Bool := decide (500 < sumZ ls) || decide (500 < ls.length)
/-- Long, at programs of few blocks. -/
theorem longP_few (regs : Int) (ls : List (List Cd)) (bl : Option Addr) (cap : Nat) (w : World) (hin : BlkIn w bl ls) (hl : ls.length ≤ 9223372036854775807) (hm : ∀ k, k < ls.length → (atB ls k).length ≤ 9223372036854775807) :
    Calls Tryz.prog 10 #[.agg #[.int .i64 regs, .slice bl ls.length cap]] w fun e w' => e = .returned (.bool (longP ls)) ∧ Below w.heap.size w w' := by
  have HI := Lib.hid hin; have HM := Lib.hid hm
  clear hin hm
  go_enter Tryz.func10, Tryz.ntmps10
  go_upto_region 1 with (fail)
  generalize hw0 : w.alloc _ = w0
  generalize hq : w.heap.size = q
  have hb0 : Below w.heap.size w w0 := by rw [← hw0]; exact (Below.refl _ _).alloc (Nat.le_refl _) _
  have h1 : w0.cell? ⟨q, 1, none⟩ = some (.slice bl ls.length cap) := by subst hw0 hq; simp [go_sem]
  have HH1 := Lib.hid h1; have HB0 := Lib.hid hb0
  have HQ := Lib.hid hq
  clear hw0 hq h1 hb0
  go_wp2_with fail
  go_loopw [3, 4] (fun n i wr => ∃ k : Nat, k ≤ ls.length ∧ n = .int .i64 (sumZ (ls.take k)) ∧ i = .int .i64 k ∧ Below w0.heap.size w0 wr) (fun _ i _ => ls.length - (intOf i).toNat)
  case atStart => exact ⟨0, Nat.zero_le _, by simp [sumZ], rfl, Below.refl _ _⟩
  case round =>
    obtain ⟨k, hk, rfl, rfl, hb⟩ := hrel
    have HB := Lib.hid hb
    have h1 := keep HH1.out hb
    by_cases hlt : k < ls.length
    · obtain ⟨b, off, a, cp, rfl, hc, _⟩ := (HI.out.below HB0.out).below hb k hlt
      have hki : (k : Int) < (ls.length : Int) := by omega
      clear hb
      have HT := Lib.hid (sumZ_take hlt)
      generalize hsk : sumZ (ls.take k) = sk at *
      generalize hbl : (atB ls k).length = m at *
      clear hsk hbl
      go_wp2_with fail
      go_roundw
      case rel => exact ⟨k + 1, by omega, by rw [HT.out], by go_num, HB.out⟩
      case measure => simp [intOf]; omega
    · obtain rfl : k = ls.length := by omega
      have HRes : Hid (sumZ (ls.take ls.length) = sumZ ls) := Lib.hid (by rw [List.take_length])
      rw [HRes.out]
      have HBW := Lib.hid (HB0.out.trans (HB.out.mono HB0.out.size))
      clear hb
      by_cases hz : 500 < sumZ ls
      · have HR : Hid (longP ls = true) := Lib.hid (by unfold longP; rw [decide_eq_true hz]; rfl)
        generalize sumZ ls = sz at *
        generalize ls.length = p at *
        go_wp2_with fail
        go_ret
        exact ⟨ret_bool HR.out.symm, HBW.out⟩
      · by_cases hp : 500 < ls.length
        · have HR : Hid (longP ls = true) := Lib.hid (by unfold longP; rw [decide_eq_true hp, Bool.or_true])
          have hpi : (500 : Int) < (ls.length : Int) := by omega
          generalize sumZ ls = sz at *
          generalize ls.length = p at *
          go_wp2_with fail
          go_ret
          exact ⟨ret_bool HR.out.symm, HBW.out⟩
        · have HR : Hid (longP ls = false) := Lib.hid (by unfold longP; rw [decide_eq_false hz, decide_eq_false hp]; rfl)
          have hpi : ¬ (500 : Int) < (ls.length : Int) := by omega
          generalize sumZ ls = sz at *
          generalize ls.length = p at *
          go_wp2_with fail
          go_ret
          exact ⟨ret_bool HR.out.symm, HBW.out⟩
set_option maxHeartbeats 1000000 in
theorem sSize_any (regs : Int) (ls : List (List Cd)) (bl : Option Addr) (cap : Nat) (w : World) (hin : BlkIn w bl ls) (hl : ls.length ≤ 500) (hm : ∀ k, k < ls.length → (atB ls k).length ≤ 9223372036854775807) :
    Calls Tryz.prog 27 #[.agg #[.int .i64 regs, .slice bl ls.length cap]] w fun e w' => e = .returned (.tuple #[.int .i64 (if progErrW regs ls = 0 then sumZ ls else 0), .int .i64 (progErrW regs ls)]) ∧ Below w.heap.size w w' := by
  have HV := Lib.hid (fun u (h : BlkIn u bl ls) => ValidateW_any regs ls bl cap u h (by omega) hm)
  have HS := Lib.hid (fun u (h : BlkIn u bl ls) => sizeZ_any regs ls bl cap u h hl hm)
  have HI := Lib.hid hin
  clear hin hl hm
  generalize sumZ ls = sz at *
  generalize progErrW regs ls = pe at *
  have HI2 : Hid (∀ W, Below w.heap.size w W → BlkIn W bl ls) := Lib.hid fun W h => HI.out.below h
  generalize ls.length = p at *
  by_cases he : pe = 0
  · rw [if_pos he]
    subst he
    go_enter Tryz.func27, Tryz.ntmps27
    go_upto_region 1 with (fail)
    generalize hw0 : w.alloc _ = w0
    generalize hq : w.heap.size = q at *
    have hb0 : Below q w w0 := by rw [← hw0, ← hq]; exact (Below.refl _ _).alloc (Nat.le_refl _) _
    have h0 : w0.cell? ⟨q, 0, none⟩ = some (.int .i64 regs) := by subst hw0 hq; simp [go_sem]
    have h1 : w0.cell? ⟨q, 1, none⟩ = some (.slice bl p cap) := by subst hw0 hq; simp [go_sem]
    have HB0 := Lib.hid hb0; have HQ := Lib.hid hq
    have HZ : Hid (q ≤ w0.heap.size) := Lib.hid (by rw [← hq]; exact hb0.size)
    clear hw0 hq hb0
    go_wp2_with fail
    refine (HV.out _ (HI2.out _ HB0.out)).mono ?_; rintro e w1 ⟨rfl, hb1⟩
    have HB1 := Lib.hid (HB0.out.trans (hb1.mono HZ.out)); have HZ1 : Hid (q ≤ w1.heap.size) := Lib.hid (Nat.le_trans HZ.out hb1.size)
    have k0 := keep h0 hb1; have k1 := keep h1 hb1
    clear h0 h1 hb1
    go_wp2_with fail
    refine (HS.out _ (HI2.out _ HB1.out)).mono ?_; rintro e w2 ⟨rfl, hb2⟩
    have HB2 := Lib.hid (HB1.out.trans (hb2.mono HZ1.out))
    clear hb2
    go_wp2_with fail
    go_ret2
    exact ⟨rfl, by rw [HQ.out]; exact HB2.out⟩
  · rw [if_neg he]
    have he' : (pe != 0) = true := by simpa using he
    go_enter Tryz.func27, Tryz.ntmps27
    go_upto_region 1 with (fail)
    generalize hw0 : w.alloc _ = w0
    generalize hq : w.heap.size = q at *
    have hb0 : Below q w w0 := by rw [← hw0, ← hq]; exact (Below.refl _ _).alloc (Nat.le_refl _) _
    have h0 : w0.cell? ⟨q, 0, none⟩ = some (.int .i64 regs) := by subst hw0 hq; simp [go_sem]
    have h1 : w0.cell? ⟨q, 1, none⟩ = some (.slice bl p cap) := by subst hw0 hq; simp [go_sem]
    have HB0 := Lib.hid hb0; have HQ := Lib.hid hq
    have HZ : Hid (q ≤ w0.heap.size) := Lib.hid (by rw [← hq]; exact hb0.size)
    clear hw0 hq hb0
    go_wp2_with fail
    refine (HV.out _ (HI2.out _ HB0.out)).mono ?_; rintro e w1 ⟨rfl, hb1⟩
    have HB1 := Lib.hid (HB0.out.trans (hb1.mono HZ.out)); have HZ1 : Hid (q ≤ w1.heap.size) := Lib.hid (Nat.le_trans HZ.out hb1.size)
    have k0 := keep h0 hb1; have k1 := keep h1 hb1
    clear h0 h1 hb1
    go_wp2_with fail
    go_ret2
    exact ⟨rfl, by rw [HQ.out]; exact HB1.out⟩
set_option maxHeartbeats 1000000 in
theorem rSize_any (regs : Int) (ls : List (List Cd)) (bl : Option Addr) (cap : Nat) (w : World) (hin : BlkIn w bl ls) (hl : ls.length ≤ 500) (hm : ∀ k, k < ls.length → (atB ls k).length ≤ 9223372036854775807) :
    Calls Tryz.prog 28 #[.agg #[.int .i64 regs, .slice bl ls.length cap]] w fun e w' => e = .returned (.tuple #[.int .i64 (if progErrW regs ls = 0 then sumZ ls else 0), .int .i64 (progErrW regs ls)]) ∧ Below w.heap.size w w' := by
  have HV := Lib.hid (fun u (h : BlkIn u bl ls) => rValidateW_any regs ls bl cap u h (by omega) hm)
  have HS := Lib.hid (fun u (h : BlkIn u bl ls) => countZ_any regs ls bl cap u h hl hm)
  have HI := Lib.hid hin
  clear hin hl hm
  generalize sumZ ls = sz at *
  generalize progErrW regs ls = pe at *
  have HI2 : Hid (∀ W, Below w.heap.size w W → BlkIn W bl ls) := Lib.hid fun W h => HI.out.below h
  generalize ls.length = p at *
  by_cases he : pe = 0
  · rw [if_pos he]
    subst he
    go_enter Tryz.func28, Tryz.ntmps28
    go_upto_region 1 with (fail)
    generalize hw0 : w.alloc _ = w0
    generalize hq : w.heap.size = q at *
    have hb0 : Below q w w0 := by rw [← hw0, ← hq]; exact (Below.refl _ _).alloc (Nat.le_refl _) _
    have h0 : w0.cell? ⟨q, 0, none⟩ = some (.int .i64 regs) := by subst hw0 hq; simp [go_sem]
    have h1 : w0.cell? ⟨q, 1, none⟩ = some (.slice bl p cap) := by subst hw0 hq; simp [go_sem]
    have HB0 := Lib.hid hb0; have HQ := Lib.hid hq
    have HZ : Hid (q ≤ w0.heap.size) := Lib.hid (by rw [← hq]; exact hb0.size)
    clear hw0 hq hb0
    go_wp2_with fail
    refine (HV.out _ (HI2.out _ HB0.out)).mono ?_; rintro e w1 ⟨rfl, hb1⟩
    have HB1 := Lib.hid (HB0.out.trans (hb1.mono HZ.out)); have HZ1 : Hid (q ≤ w1.heap.size) := Lib.hid (Nat.le_trans HZ.out hb1.size)
    have k0 := keep h0 hb1; have k1 := keep h1 hb1
    clear h0 h1 hb1
    go_wp2_with fail
    refine (HS.out _ (HI2.out _ HB1.out)).mono ?_; rintro e w2 ⟨rfl, hb2⟩
    have HB2 := Lib.hid (HB1.out.trans (hb2.mono HZ1.out))
    clear hb2
    go_wp2_with fail
    go_ret2
    exact ⟨rfl, by rw [HQ.out]; exact HB2.out⟩
  · rw [if_neg he]
    have he' : (pe != 0) = true := by simpa using he
    go_enter Tryz.func28, Tryz.ntmps28
    go_upto_region 1 with (fail)
    generalize hw0 : w.alloc _ = w0
    generalize hq : w.heap.size = q at *
    have hb0 : Below q w w0 := by rw [← hw0, ← hq]; exact (Below.refl _ _).alloc (Nat.le_refl _) _
    have h0 : w0.cell? ⟨q, 0, none⟩ = some (.int .i64 regs) := by subst hw0 hq; simp [go_sem]
    have h1 : w0.cell? ⟨q, 1, none⟩ = some (.slice bl p cap) := by subst hw0 hq; simp [go_sem]
    have HB0 := Lib.hid hb0; have HQ := Lib.hid hq
    have HZ : Hid (q ≤ w0.heap.size) := Lib.hid (by rw [← hq]; exact hb0.size)
    clear hw0 hq hb0
    go_wp2_with fail
    refine (HV.out _ (HI2.out _ HB0.out)).mono ?_; rintro e w1 ⟨rfl, hb1⟩
    have HB1 := Lib.hid (HB0.out.trans (hb1.mono HZ.out)); have HZ1 : Hid (q ≤ w1.heap.size) := Lib.hid (Nat.le_trans HZ.out hb1.size)
    have k0 := keep h0 hb1; have k1 := keep h1 hb1
    clear h0 h1 hb1
    go_wp2_with fail
    go_ret2
    exact ⟨rfl, by rw [HQ.out]; exact HB1.out⟩
theorem held_on {q p cap : Nat} {bl : Option Addr} {regs : Int} {w w1 w2 : World} (h : w1.cell? ⟨q, 0, none⟩ = some (.int .i64 regs) ∧ w1.cell? ⟨q, 1, none⟩ = some (.slice bl p cap) ∧ Below q w w1 ∧ q ≤ w1.heap.size) (hb : Below w1.heap.size w1 w2) :
    w2.cell? ⟨q, 0, none⟩ = some (.int .i64 regs) ∧ w2.cell? ⟨q, 1, none⟩ = some (.slice bl p cap) ∧ Below q w w2 ∧ q ≤ w2.heap.size :=
  ⟨keep h.1 hb, keep h.2.1 hb, h.2.2.1.trans (hb.mono h.2.2.2), Nat.le_trans h.2.2.2 hb.size⟩
set_option maxRecDepth 100000 in
set_option maxHeartbeats 2000000 in
theorem pickPrograms_any (regs : Int) (ls : List (List Cd)) (bl : Option Addr) (cap : Nat) (w : World) (hin : BlkIn w bl ls) (hl : ls.length ≤ 9223372036854775807) (hm : ∀ k, k < ls.length → (atB ls k).length ≤ 9223372036854775807) :
    Calls Tryz.prog 7 #[.agg #[.int .i64 regs, .slice bl ls.length cap]] w fun e w' => e = .returned (.bool true) ∧ Below w.heap.size w w' := by
  have HL := Lib.hid (fun u (h : BlkIn u bl ls) => longP_few regs ls bl cap u h hl hm)
  have HK := Lib.hid known_any
  have HSm : Hid (longP ls = false → ls.length ≤ 500) := Lib.hid fun h => by
    unfold longP at h
    rw [Bool.or_eq_false_iff] at h
    have := of_decide_eq_false h.2
    omega
  have HA := Lib.hid (fun h u (hu : BlkIn u bl ls) => sSize_any regs ls bl cap u hu h hm)
  have HB := Lib.hid (fun h u (hu : BlkIn u bl ls) => rSize_any regs ls bl cap u hu h hm)
  have HC := Lib.hid (fun (h : ls.length ≤ 500) u (hu : BlkIn u bl ls) => ValidateW_any regs ls bl cap u hu (by omega) hm)
  have HD := Lib.hid (fun (h : ls.length ≤ 500) u (hu : BlkIn u bl ls) => rValidateW_any regs ls bl cap u hu (by omega) hm)
  have HI2 : Hid (∀ W, Below w.heap.size w W → BlkIn W bl ls) := Lib.hid fun W h => hin.below h
  clear hin hl hm
  generalize (if progErrW regs ls = 0 then sumZ ls else 0) = sz at *
  generalize progErrW regs ls = pe at *
  generalize hlo : longP ls = lo at *
  have HLo := Lib.hid hlo; clear hlo
  generalize ls.length = p at *
  go_enter Tryz.func7, Tryz.ntmps7
  go_upto_region 1 with (fail)
  generalize hw0 : w.alloc _ = w0
  generalize hq : w.heap.size = q at *
  have hb0 : Below q w w0 := by rw [← hw0, ← hq]; exact (Below.refl _ _).alloc (Nat.le_refl _) _
  have h0 : w0.cell? ⟨q, 0, none⟩ = some (.int .i64 regs) := by subst hw0 hq; simp [go_sem]
  have h1 : w0.cell? ⟨q, 1, none⟩ = some (.slice bl p cap) := by subst hw0 hq; simp [go_sem]
  have HB0 := Lib.hid hb0; have HQ := Lib.hid hq
  have HZ : Hid (q ≤ w0.heap.size) := Lib.hid (by rw [← hq]; exact hb0.size)
  clear hw0 hq hb0
  go_wp2_with fail
  refine (HL.out _ (HI2.out _ HB0.out)).mono ?_; rintro e w1 ⟨rfl, hb1⟩
  have HB1 := Lib.hid (HB0.out.trans (hb1.mono HZ.out)); have HZ1 : Hid (q ≤ w1.heap.size) := Lib.hid (Nat.le_trans HZ.out hb1.size)
  have k0 := keep h0 hb1; have k1 := keep h1 hb1
  clear h0 h1 hb1
  cases lo
  rotate_left
  · go_wp2_with fail
    refine (HK.out _).mono ?_; rintro e w2 ⟨rfl, hb2⟩
    go_wp2_with fail
    go_ret
    exact ⟨rfl, by rw [HQ.out]; exact HB1.out.trans (hb2.mono HZ1.out)⟩
  have HP := Lib.hid (HSm.out rfl)
  have HA2 := Lib.hid (HA.out HP.out); have HB2c := Lib.hid (HB.out HP.out); have HC2 := Lib.hid (HC.out HP.out); have HD2 := Lib.hid (HD.out HP.out)
  clear HA HB HC HD HL
  go_wp2_with fail
  refine (HA2.out _ (HI2.out _ HB1.out)).mono ?_; rintro e w2 ⟨rfl, hb2⟩
  have HB2 := Lib.hid (HB1.out.trans (hb2.mono HZ1.out)); have HZ2 : Hid (q ≤ w2.heap.size) := Lib.hid (Nat.le_trans HZ1.out hb2.size)
  have m0 := keep k0 hb2; have m1 := keep k1 hb2
  clear k0 k1 hb2
  go_wp2_with fail
  refine (HB2c.out _ (HI2.out _ HB2.out)).mono ?_; rintro e w3 ⟨rfl, hb3⟩
  have HB3 := Lib.hid (HB2.out.trans (hb3.mono HZ2.out)); have HZ3 : Hid (q ≤ w3.heap.size) := Lib.hid (Nat.le_trans HZ2.out hb3.size)
  have n0 := keep m0 hb3; have n1 := keep m1 hb3
  have HN0 := Lib.hid n0; have HN1 := Lib.hid n1
  clear m0 m1 hb3
  have hS3 : w3.cell? ⟨q, 0, none⟩ = some (.int .i64 regs) ∧ w3.cell? ⟨q, 1, none⟩ = some (.slice bl p cap) ∧ Below q w w3 ∧ q ≤ w3.heap.size := ⟨n0, n1, HB3.out, HZ3.out⟩
  have hee : (pe == pe) = true := by simp
  have hss : (sz == sz) = true := by simp
  go_wp2_with fail
  go_region_held3 (fun w' => w'.cell? ⟨q, 0, none⟩ = some (.int .i64 regs) ∧ w'.cell? ⟨q, 1, none⟩ = some (.slice bl p cap) ∧ Below q w w' ∧ q ≤ w'.heap.size)
    (first | exact hS3 | exact held_on hS3 (below_drew1 (Below.refl _ _)) | exact held_on (by assumption) (by assumption))
    (first | (go_at_call 29; refine (HC2.out _ (HI2.out _ (And.left (And.right (And.right ‹_ ∧ _ ∧ Below q w _ ∧ q ≤ _›))))).mono ?_; rintro e w4 ⟨rfl, hb4⟩) | (go_at_call 24; refine (HD2.out _ (HI2.out _ (And.left (And.right (And.right ‹_ ∧ _ ∧ Below q w _ ∧ q ≤ _›))))).mono ?_; rintro e w4 ⟨rfl, hb4⟩) | (go_at_call 11; refine (HK.out _).mono ?_; rintro e w4 ⟨rfl, hb4⟩))
  rename_i hH
  go_wp2_with fail
  go_ret
  exact ⟨rfl, by rw [HQ.out]; exact hH.2.2.1⟩
end Go.Proofs.YtoldgjieplblpaaGreat.PK
