/- The walks of the specification's cost, Issue and Cost. -/
import Derived.Test.YtccpjfppkahbmaaT9
namespace Go.Proofs.Ytccpjfppkahbmaa
open Go.RowKit PK

theorem rissue_at {l : List Cd} (hl : l.length ≤ 40) (hok : ∀ k, k < l.length → okC (atC l k) = true) {a : Option Addr} {cap : Nat} {w : World} (hin : CdsIn w a l) :
    Calls Try.prog 40 #[.slice a l.length cap] w fun e w' => (∃ ra rc, e = .returned (.slice ra l.length rc) ∧ IntsIn w' ra (issN l l.length)) ∧ Below w.heap.size w w' := by
  refine (rIssue_any l a cap w hin hl hok).mono ?_
  rintro e w' ⟨⟨ra, rc, rfl, h⟩, hb⟩
  rw [issN_len]
  exact ⟨⟨ra, rc, rfl, h⟩, hb⟩
set_option maxHeartbeats 2000000 in
theorem rcost_any (l : List Cd) (a : Option Addr) (cap : Nat) (w : World) (hin : CdsIn w a l) (hl : l.length ≤ 40) (hok : ∀ k, k < l.length → okC (atC l k) = true) :
    Calls Try.prog 42 #[.slice a l.length cap] w fun e w' => e = .returned (.int .i64 (costN l l.length)) ∧ Below w.heap.size w w' := by
  have HI := Lib.hid hin
  have HIs := Lib.hid (rissue_at hl hok (cap := cap) hin)
  clear hin hok
  go_enter Try.func42, Try.ntmps42
  go_wp2_with fail
  refine HIs.out.mono ?_; rintro e w2 ⟨⟨ra, rc, rfl, hin⟩, hb2⟩
  have HR := Lib.hid hin
  have HB2 := Lib.hid hb2
  clear hin hb2 HIs
  go_wp2_with fail
  go_loopw [3, 5] (fun t i wr => ∃ k : Nat, k ≤ l.length ∧ i = .int .i64 k ∧ t = .int .i64 (costN l k) ∧ Below w2.heap.size w2 wr) (fun _ i _ => l.length - (intOf i).toNat)
  case atStart => exact ⟨0, Nat.zero_le _, rfl, rfl, Below.refl _ _⟩
  case round =>
    obtain ⟨k, hk, rfl, rfl, hb⟩ := hrel
    by_cases hlt : k < l.length
    · have hb0 := HB2.out.trans (hb.mono HB2.out.size)
      obtain ⟨bb, off, rfl, hc⟩ := HI.out.below hb0 k hlt
      obtain ⟨br, offr, rfl, cr⟩ := HR.out.below hb k (by rw [issN_len]; exact hlt)
      have c0 := hc.c0
      have HN : Hid (costN l (k + 1) = max (costN l k) ((issN l l.length).getD k 0 + lat (atC l k).op)) := Lib.hid rfl
      have hs := issN_small l l.length k hlt
      have hcs := costN_small l k hk
      have hls := lat_small (atC l k).op
      have HB := Lib.hid hb
      clear hb hb0 hc
      generalize (issN l l.length).getD k 0 = t at *
      generalize (atC l k).op = op at *
      generalize costN l k = cn at *
      have HLat : Hid (∀ w : World, Calls Try.prog 44 #[.int .i64 op] w fun e w' => e = .returned (.int .i64 (lat op)) ∧ Below w.heap.size w w') := Lib.hid fun w => (rLat_any op w).mono (by rintro e w' ⟨rfl, rfl⟩; exact ⟨rfl, Below.refl _ _⟩)
      generalize lat op = lv at *
      have hk2 : (k : Int) < (l.length : Int) := by omega
      have hk0 : (0 : Int) ≤ (k : Int) := by omega
      go_wp2_with fail
      go_region_held3 (fun w' => w'.cell? ⟨bb, off + k * 6, none⟩ = some (.int .i64 op) ∧ w'.cell? ⟨br, offr + k, none⟩ = some (.int .i64 t))
        (first | exact ⟨c0, cr⟩ | exact ⟨keep c0 (by assumption), keep cr (by assumption)⟩)
        (first | (go_at_call 44; refine (HLat.out _).mono ?_; rintro e w6 ⟨rfl, hb6⟩; have hb6 := below_of_drew hb6))
      have HB6 := Lib.hid (HB.out.trans (hb6.mono HB.out.size))
      go_wp2_with fail
      go_roundw
      case rel => exact ⟨k + 1, by omega, by go_num, by rw [show IntKind.i64.wrap (t + lv) = t + lv by rw [IntKind.wrap_i64]; omega, ← HN.out], HB6.out⟩
      case measure => simp [intOf]; omega
    · obtain rfl : k = l.length := by omega
      have HB := Lib.hid hb
      clear hb
      go_wp2_with fail
      go_ret
      exact ⟨rfl, HB2.out.trans (HB.out.mono HB2.out.size)⟩
set_option maxHeartbeats 1000000 in
theorem rIssue_all (l : List Cd) (a : Option Addr) (cap : Nat) (w : World) (hin : CdsIn w a l) (hl : l.length ≤ 1099511627776) : Calls Try.prog 13 #[.slice a l.length cap] w (IssuePost l w) := by
  have HI := Lib.hid hin
  have HV := Lib.hid (rValidate_any l a cap w hin hl)
  have HBad := Lib.hid (issue_bad l w)
  have HGood := Lib.hid (issue_good l w)
  have HZ := Lib.hid (@tErr_zero l)
  have HIs := Lib.hid (fun h1 h2 w' h => @rissue_at l h1 h2 a cap w' h)
  clear hin
  generalize tErr l = te at *
  go_enter Try.func13, Try.ntmps13
  go_wp2_with fail
  refine HV.out.mono ?_; rintro e w2 ⟨rfl, hb2⟩
  have HB2 := Lib.hid hb2
  clear hb2
  by_cases hz : te = 0
  · subst hz
    obtain ⟨h1, h2⟩ := HZ.out rfl
    have HK := Lib.hid (HIs.out h1 h2 w2 (HI.out.below HB2.out))
    clear h2
    go_wp2_with fail
    refine HK.out.mono ?_; rintro e w3 ⟨⟨ra, rc, rfl, hri⟩, hb3⟩
    have HR := Lib.hid hri
    have HB3 := Lib.hid (HB2.out.trans (hb3.mono HB2.out.size))
    clear hri hb3
    go_wp2_with fail
    go_ret2
    exact HGood.out _ _ _ (by trivial) HR.out HB3.out
  · go_wp2_with fail
    go_ret2
    exact HBad.out _ _ rfl hz HB2.out
set_option maxHeartbeats 1000000 in
theorem rCost_all (l : List Cd) (a : Option Addr) (cap : Nat) (w : World) (hin : CdsIn w a l) (hl : l.length ≤ 1099511627776) : Calls Try.prog 15 #[.slice a l.length cap] w (CostPost l w) := by
  have HI := Lib.hid hin
  have HV := Lib.hid (rValidate_any l a cap w hin hl)
  have HBad := Lib.hid (cost_bad l w)
  have HGood := Lib.hid (cost_good l w)
  have HZ := Lib.hid (@tErr_zero l)
  have HIs := Lib.hid (fun w' h h1 h2 => rcost_any l a cap w' h h1 h2)
  clear hin
  generalize tErr l = te at *
  go_enter Try.func15, Try.ntmps15
  go_wp2_with fail
  refine HV.out.mono ?_; rintro e w2 ⟨rfl, hb2⟩
  have HB2 := Lib.hid hb2
  clear hb2
  by_cases hz : te = 0
  · subst hz
    obtain ⟨h1, h2⟩ := HZ.out rfl
    have HK := Lib.hid (HIs.out w2 (HI.out.below HB2.out) h1 h2)
    clear h2
    go_wp2_with fail
    refine HK.out.mono ?_; rintro e w3 ⟨rfl, hb3⟩
    have HB3 := Lib.hid (HB2.out.trans (hb3.mono HB2.out.size))
    clear hb3
    go_wp2_with fail
    go_ret2
    exact HGood.out _ _ (by trivial) rfl HB3.out
  · go_wp2_with fail
    go_ret2
    exact HBad.out _ _ rfl hz HB2.out
end Go.Proofs.Ytccpjfppkahbmaa
