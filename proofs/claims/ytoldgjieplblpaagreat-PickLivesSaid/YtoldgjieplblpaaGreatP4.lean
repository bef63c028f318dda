/- The law PickLives. -/
import Derived.Test.YtoldgjieplblpaaGreatP2
import Derived.Test.YtoldgjieplblpaaGreatVF
namespace Go.Proofs.YtoldgjieplblpaaGreat.PK
open Go.RowKit

/-- What both sides answer, in one shape. -/
def LvIs (regs : Int) (ls : List (List Cd)) (L : List (List Int)) : Prop := (progErrW regs ls = 0 → LiveOf ls regs.toNat L) ∧ (progErrW regs ls ≠ 0 → L = [])
theorem LvIs.unique {regs : Int} {ls : List (List Cd)} {L L' : List (List Int)} (h : LvIs regs ls L) (h' : LvIs regs ls L') : L = L' := by
  by_cases h0 : progErrW regs ls = 0
  · exact (h.1 h0).unique (h'.1 h0)
  · rw [h.2 h0, h'.2 h0]
theorem LvIs.small {regs : Int} {ls : List (List Cd)} {L : List (List Int)} (h : LvIs regs ls L) : L.length ≤ 400 ∧ ∀ k, (L.getD k []).length ≤ 200 := by
  by_cases h0 : progErrW regs ls = 0
  · obtain ⟨hbig, _, _⟩ := prog_partsW h0
    have hb2 : 0 ≤ regs ∧ regs ≤ 200 ∧ 1 ≤ ls.length ∧ ls.length ≤ 400 := by unfold tooBigW at hbig; omega
    have h1 := (h.1 h0).len
    exact ⟨by omega, fun k => Nat.le_trans ((h.1 h0).row k) (by omega)⟩
  · rw [h.2 h0]; exact ⟨Nat.zero_le _, fun k => by simp⟩
def LvShape (regs : Int) (ls : List (List Cd)) (w : World) (e : Ending) (w' : World) : Prop :=
  ∃ a cap L, e = .returned (.tuple #[.slice a L.length cap, .int .i64 (progErrW regs ls)]) ∧ RowsIn w' a L ∧ LvIs regs ls L ∧ Below w.heap.size w w'
theorem LvPost.shape {regs : Int} {ls : List (List Cd)} {w w' : World} {e : Ending} (h : LvPost regs ls w e w') : LvShape regs ls w e w' := by
  obtain ⟨h1, h2⟩ := h
  by_cases h0 : progErrW regs ls = 0
  · rw [if_pos h0] at h1
    obtain ⟨v, L, rfl, hL, hr⟩ := h1
    obtain ⟨a, cap, rfl, hin⟩ := hr.rows
    exact ⟨a, cap, L, by rw [h0], hin, ⟨fun _ => hL, fun h => absurd h0 h⟩, h2⟩
  · rw [if_neg h0] at h1
    exact ⟨none, 0, [], h1, fun _ hk => absurd hk (Nat.not_lt_zero _), ⟨fun h => absurd h h0, fun _ => rfl⟩, h2⟩
set_option maxRecDepth 100000 in
set_option maxHeartbeats 2000000 in
theorem sLive_bad (regs : Int) (ls : List (List Cd)) (bl : Option Addr) (cap : Nat) (w : World) (hin : BlkIn w bl ls) (hv : progErrW regs ls ≠ 0) (hl : ls.length ≤ 500) (hlm : ∀ k, k < ls.length → (atB ls k).length ≤ 9223372036854775807) :
    Calls Tryz.prog 35 #[.agg #[.int .i64 regs, .slice bl ls.length cap]] w (LvPost regs ls w) := by
  have HV := Lib.hid (fun u (h : BlkIn u bl ls) => ValidateW_any regs ls bl cap u h (by omega) hlm)
  have HPost : Hid (∀ W', Below w.heap.size w W' → LvPost regs ls w (.returned (.tuple #[.slice none 0 0, .int .i64 (progErrW regs ls)])) W') := Lib.hid (fun W' h => ⟨by rw [if_neg hv], h⟩)
  have HI := Lib.hid hin
  clear hin hlm
  generalize progErrW regs ls = pe at *
  go_enter Tryz.func35, Tryz.ntmps35
  go_upto_region 1 with (fail)
  have HB0 : Hid (Below w.heap.size w (w.alloc (.cells #[.int .i64 regs, .slice bl ls.length cap] 24))) := Lib.hid ((Below.refl _ _).alloc (Nat.le_refl _) _)
  have hp0 : (w.alloc (.cells #[.int .i64 regs, .slice bl ls.length cap] 24)).cell? ⟨w.heap.size, 0, none⟩ = some (.int .i64 regs) := by simp [go_sem]
  have hp1 : (w.alloc (.cells #[.int .i64 regs, .slice bl ls.length cap] 24)).cell? ⟨w.heap.size, 1, none⟩ = some (.slice bl ls.length cap) := by simp [go_sem]
  generalize w.alloc (.cells #[.int .i64 regs, .slice bl ls.length cap] 24) = w0 at *
  go_wp2_with fail
  refine (HV.out _ (HI.out.below HB0.out)).mono ?_; rintro e w1 ⟨rfl, hb1⟩
  have HF := Lib.hid (HPost.out _ (HB0.out.trans (hb1.mono HB0.out.size)))
  clear hb1 hp0 hp1
  go_wp2_with fail
  go_ret2
  exact HF.out
set_option maxRecDepth 100000 in
set_option maxHeartbeats 2000000 in
theorem rLive_bad (regs : Int) (ls : List (List Cd)) (bl : Option Addr) (cap : Nat) (w : World) (hin : BlkIn w bl ls) (hv : progErrW regs ls ≠ 0) (hl : ls.length ≤ 500) (hlm : ∀ k, k < ls.length → (atB ls k).length ≤ 9223372036854775807) :
    Calls Tryz.prog 36 #[.agg #[.int .i64 regs, .slice bl ls.length cap]] w (LvPost regs ls w) := by
  have HV := Lib.hid (fun u (h : BlkIn u bl ls) => rValidateW_any regs ls bl cap u h (by omega) hlm)
  have HPost : Hid (∀ W', Below w.heap.size w W' → LvPost regs ls w (.returned (.tuple #[.slice none 0 0, .int .i64 (progErrW regs ls)])) W') := Lib.hid (fun W' h => ⟨by rw [if_neg hv], h⟩)
  have HI := Lib.hid hin
  clear hin hlm
  generalize progErrW regs ls = pe at *
  go_enter Tryz.func36, Tryz.ntmps36
  go_upto_region 1 with (fail)
  have HB0 : Hid (Below w.heap.size w (w.alloc (.cells #[.int .i64 regs, .slice bl ls.length cap] 24))) := Lib.hid ((Below.refl _ _).alloc (Nat.le_refl _) _)
  have hp0 : (w.alloc (.cells #[.int .i64 regs, .slice bl ls.length cap] 24)).cell? ⟨w.heap.size, 0, none⟩ = some (.int .i64 regs) := by simp [go_sem]
  have hp1 : (w.alloc (.cells #[.int .i64 regs, .slice bl ls.length cap] 24)).cell? ⟨w.heap.size, 1, none⟩ = some (.slice bl ls.length cap) := by simp [go_sem]
  generalize w.alloc (.cells #[.int .i64 regs, .slice bl ls.length cap] 24) = w0 at *
  go_wp2_with fail
  refine (HV.out _ (HI.out.below HB0.out)).mono ?_; rintro e w1 ⟨rfl, hb1⟩
  have HF := Lib.hid (HPost.out _ (HB0.out.trans (hb1.mono HB0.out.size)))
  clear hb1 hp0 hp1
  go_wp2_with fail
  go_ret2
  exact HF.out
theorem sLive_all (regs : Int) (ls : List (List Cd)) (bl : Option Addr) (cap : Nat) (hl : ls.length ≤ 500) (hlm : ∀ k, k < ls.length → (atB ls k).length ≤ 9223372036854775807) (w : World) (hin : BlkIn w bl ls) :
    Calls Tryz.prog 35 #[.agg #[.int .i64 regs, .slice bl ls.length cap]] w (LvShape regs ls w) := by
  by_cases hv : progErrW regs ls = 0
  · exact (sLive_ok regs ls bl cap w hin hv hlm).mono fun _ _ h => h.shape
  · exact (sLive_bad regs ls bl cap w hin hv hl hlm).mono fun _ _ h => h.shape
theorem rLive_all (regs : Int) (ls : List (List Cd)) (bl : Option Addr) (cap : Nat) (hl : ls.length ≤ 500) (hlm : ∀ k, k < ls.length → (atB ls k).length ≤ 9223372036854775807) (w : World) (hin : BlkIn w bl ls) :
    Calls Tryz.prog 36 #[.agg #[.int .i64 regs, .slice bl ls.length cap]] w (LvShape regs ls w) := by
  by_cases hv : progErrW regs ls = 0
  · exact (rLive_ok regs ls bl cap w hin hv hlm).mono fun _ _ h => h.shape
  · exact (rLive_bad regs ls bl cap w hin hv hl hlm).mono fun _ _ h => h.shape
set_option maxRecDepth 100000 in
theorem same20Lists_any (g : List (List Int)) (a b : Option Addr) (ca cb : Nat) (w : World) (ha : RowsIn w a g) (hb : RowsIn w b g) (hl : g.length ≤ 1000000) (hr : ∀ k, (g.getD k []).length ≤ 1000000) :
    Calls Tryz.prog 37 #[.slice a g.length ca, .slice b g.length cb] w fun e w' => e = .returned (.bool true) ∧ Below w.heap.size w w' := by
  have HA := Lib.hid ha; have HB := Lib.hid hb; have HR := Lib.hid hr
  clear ha hb hr
  go_enter Tryz.func37, Tryz.ntmps37
  go_wp2_with fail
  go_loopw [5] (fun i wr => ∃ k : Nat, k ≤ g.length ∧ i = .int .i64 k ∧ Below w.heap.size w wr) (fun i _ => g.length - (intOf i).toNat)
  case atStart => exact ⟨0, Nat.zero_le _, rfl, Below.refl _ _⟩
  case round =>
    obtain ⟨k, hk, rfl, hbl⟩ := hrel
    by_cases hlt : k < g.length
    · obtain ⟨b1, o1, a1, cap1, rfl, c1, i1⟩ := HA.out.below hbl k hlt
      obtain ⟨b2, o2, a2, cap2, rfl, c2, i2⟩ := HB.out.below hbl k hlt
      have hrk := HR.out k
      have hki : (k : Int) < (g.length : Int) := by omega
      have HBl := Lib.hid hbl
      have HC := Lib.hid (fun u (hu : Below wr.heap.size wr u) => same20_any _ a1 a2 cap1 cap2 u (i1.below hu) (i2.below hu) hrk)
      clear i1 i2 hbl
      generalize (g.getD k []).length = q at *
      go_wp2_with fail
      refine wp_region_tail_veil 8 (by kernel_rfl) (by kernel_rfl) ?_
      simp only [List.take_succ_cons, List.take_zero, List.drop_succ_cons, List.drop_zero]
      iterate 8 (refine still_step_h (fun K hK => ?_); go_simp; refine hK.out _ ?_; clear hK K)
      refine still_nil_h ?_
      go_wp2_with fail
      refine (HC.out _ (below_drew1 (Below.refl _ _))).mono ?_; rintro e w5 ⟨rfl, hb5⟩
      have HB5 := Lib.hid (HBl.out.trans ((below_of_drew hb5).mono HBl.out.size))
      clear hb5
      go_wp2_with fail
      go_roundw
      case rel => exact ⟨k + 1, by omega, by go_num, HB5.out⟩
      case measure => simp [intOf]; omega
    · have hk2 : k = g.length := by omega
      have HBl := Lib.hid hbl
      clear hbl
      go_wp2_with fail
      go_ret
      exact ⟨rfl, HBl.out⟩
theorem longP_is {ls : List (List Cd)} (h : longP ls = false) : ls.length ≤ 500 := by
  unfold longP at h
  rw [Bool.or_eq_false_iff] at h
  have := of_decide_eq_false h.2
  omega
set_option maxRecDepth 100000 in
set_option maxHeartbeats 4000000 in
theorem pickLives_any (regs : Int) (ls : List (List Cd)) (bl : Option Addr) (cap : Nat) (w : World) (hin : BlkIn w bl ls) (hl : ls.length ≤ 9223372036854775807) (hm : ∀ k, k < ls.length → (atB ls k).length ≤ 9223372036854775807) :
    Calls Tryz.prog 9 #[.agg #[.int .i64 regs, .slice bl ls.length cap]] w fun e w' => e = .returned (.bool true) ∧ Below w.heap.size w w' := by
  have HL := Lib.hid (fun u (h : BlkIn u bl ls) => longP_few regs ls bl cap u h hl hm)
  have HK := Lib.hid known_any
  have HA := Lib.hid (fun h => sLive_all regs ls bl cap h hm)
  have HB := Lib.hid (fun h => rLive_all regs ls bl cap h hm)
  have HSm := Lib.hid (longP_is (ls := ls))
  have HI2 : Hid (∀ W, Below w.heap.size w W → BlkIn W bl ls) := Lib.hid fun W h => hin.below h
  have HUn := Lib.hid (fun L L' => LvIs.unique (regs := regs) (ls := ls) (L := L) (L' := L'))
  have HSl := Lib.hid (fun L => LvIs.small (regs := regs) (ls := ls) (L := L))
  clear hin hl hm
  unfold LvShape at HA HB
  generalize progErrW regs ls = pe at *
  generalize LvIs regs ls = IsL at *
  generalize hlo : longP ls = lo at *
  have HLo := Lib.hid hlo; clear hlo
  generalize ls.length = p at *
  go_enter Tryz.func9, Tryz.ntmps9
  go_upto_region 1 with (fail)
  generalize hw0 : w.alloc _ = w0
  generalize hq : w.heap.size = q at *
  have hb0 : Below q w w0 := by rw [← hw0, ← hq]; exact (Below.refl _ _).alloc (Nat.le_refl _) _
  have h0 : w0.cell? ⟨q, 0, none⟩ = some (.int .i64 regs) := by subst hw0 hq; simp [go_sem]
  have h1 : w0.cell? ⟨q, 1, none⟩ = some (.slice bl p cap) := by subst hw0 hq; simp [go_sem]
  have HB0 := Lib.hid hb0; have HQ := Lib.hid hq
  have HZ : Hid (q ≤ w0.heap.size) := Lib.hid (by rw [← hq]; exact hb0.size)
  clear hw0 hq hb0
  go_wp2_with fail
  refine (HL.out _ (HI2.out _ HB0.out)).mono ?_; rintro e w1 ⟨rfl, hb1⟩
  have HB1 := Lib.hid (HB0.out.trans (hb1.mono HZ.out)); have HZ1 : Hid (q ≤ w1.heap.size) := Lib.hid (Nat.le_trans HZ.out hb1.size)
  have k0 := keep h0 hb1; have k1 := keep h1 hb1
  clear h0 h1 hb1
  cases lo
  rotate_left
  · go_wp2_with fail
    refine (HK.out _).mono ?_; rintro e w2 ⟨rfl, hb2⟩
    go_wp2_with fail
    go_ret
    exact ⟨rfl, by rw [HQ.out]; exact HB1.out.trans (hb2.mono HZ1.out)⟩
  have HP := Lib.hid (HSm.out rfl)
  have HA2 := Lib.hid (HA.out HP.out); have HB2c := Lib.hid (HB.out HP.out)
  clear HA HB HL
  by_cases hg : 20 < regs ∧ regs ≤ 200
  · obtain ⟨hg1, hg2⟩ := hg
    go_wp2_with fail
    refine (HK.out _).mono ?_; rintro e w2 ⟨rfl, hb2⟩
    go_wp2_with fail
    go_ret
    exact ⟨rfl, by rw [HQ.out]; exact HB1.out.trans (hb2.mono HZ1.out)⟩
  have hg3 : ¬ 20 < regs ∨ 20 < regs ∧ ¬ regs ≤ 200 := by omega
  clear hg
  by_cases hp : 40 < p
  · have hp2 : (40 : Int) < (p : Int) := by omega
    rcases hg3 with hg1 | ⟨hg1, hg2⟩
    all_goals
      go_wp2_with fail
      refine (HK.out _).mono ?_; rintro e w2 ⟨rfl, hb2⟩
      go_wp2_with fail
      go_ret
      exact ⟨rfl, by rw [HQ.out]; exact HB1.out.trans (hb2.mono HZ1.out)⟩
  have hp2 : ¬ (40 : Int) < (p : Int) := by omega
  rcases hg3 with hg1 | ⟨hg1, hg2⟩
  all_goals
    go_wp2_with fail
    refine (HA2.out _ (HI2.out _ HB1.out)).mono ?_; rintro e w2 ⟨va, ca, L, rfl, hr2, hL, hb2⟩
    have HB2 := Lib.hid (HB1.out.trans (hb2.mono HZ1.out)); have HZ2 : Hid (q ≤ w2.heap.size) := Lib.hid (Nat.le_trans HZ1.out hb2.size)
    have m0 := keep k0 hb2; have m1 := keep k1 hb2
    have HR2 := Lib.hid hr2; have HL2 := Lib.hid hL
    clear k0 k1 hb2 hr2 hL
    go_wp2_with fail
    refine (HB2c.out _ (HI2.out _ HB2.out)).mono ?_; rintro e w3 ⟨vb, cb, L', rfl, hr3, hL', hb3⟩
    obtain rfl : L = L' := HUn.out L L' HL2.out hL'
    have HB3 := Lib.hid (HB2.out.trans (hb3.mono HZ2.out)); have HZ3 : Hid (q ≤ w3.heap.size) := Lib.hid (Nat.le_trans HZ2.out hb3.size)
    obtain ⟨hs1, hs2⟩ := HSl.out L HL2.out
    have HSame := Lib.hid (same20Lists_any L va vb ca cb w3 (HR2.out.below hb3) hr3 (by omega) (fun k => Nat.le_trans (hs2 k) (by omega)))
    have hee : (pe == pe) = true := by simp
    clear hb3 hr3 hL' m0 m1 hs1 hs2
    generalize L.length = ll at *
    go_wp2_with fail
    refine HSame.out.mono ?_; rintro e w4 ⟨rfl, hb4⟩
    have HB4 := Lib.hid (HB3.out.trans (hb4.mono HZ3.out)); have HZ4 : Hid (q ≤ w4.heap.size) := Lib.hid (Nat.le_trans HZ3.out hb4.size)
    clear hb4
    go_wp2_with fail
    refine (HK.out _).mono ?_; rintro e w5 ⟨rfl, hb5⟩
    go_wp2_with fail
    go_ret
    exact ⟨rfl, by rw [HQ.out]; exact HB4.out.trans (hb5.mono HZ4.out)⟩
end Go.Proofs.YtoldgjieplblpaaGreat.PK
