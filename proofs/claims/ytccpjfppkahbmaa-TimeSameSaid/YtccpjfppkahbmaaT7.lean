/- The walks of time.cost, Issue and Cost. -/
import Derived.Test.YtccpjfppkahbmaaT6
namespace Go.Proofs.Ytccpjfppkahbmaa
open Go.RowKit PK

theorem issue_at {l : List Cd} (hl : l.length ≤ 40) (hok : ∀ k, k < l.length → okC (atC l k) = true) {a : Option Addr} {cap : Nat} {w : World} (hin : CdsIn w a l) :
    Calls Try.prog 39 #[.slice a l.length cap] w fun e w' => (∃ ra rc, e = .returned (.slice ra l.length rc) ∧ IntsIn w' ra (issN l l.length)) ∧ Below w.heap.size w w' := by
  refine (issue_any l a cap w hin hl hok).mono ?_
  rintro e w' ⟨⟨ra, rc, rfl, h⟩, hb⟩
  rw [issN_len]
  exact ⟨⟨ra, rc, rfl, h⟩, hb⟩
set_option maxHeartbeats 1000000 in
theorem cost_any (l : List Cd) (a : Option Addr) (cap : Nat) (w : World) (hin : CdsIn w a l) (hl : l.length ≤ 40) (hok : ∀ k, k < l.length → okC (atC l k) = true) :
    Calls Try.prog 41 #[.slice a l.length cap] w fun e w' => e = .returned (.int .i64 (costN l l.length)) ∧ Below w.heap.size w w' := by
  have HI := Lib.hid hin
  have HIs := Lib.hid (issue_at hl hok (cap := cap) hin)
  clear hin hok
  go_enter Try.func41, Try.ntmps41
  go_wp2_with fail
  refine HIs.out.mono ?_; rintro e w2 ⟨⟨ra, rc, rfl, hin⟩, hb2⟩
  have HR := Lib.hid hin
  have HB2 := Lib.hid hb2
  clear hin hb2 HIs
  go_wp2_with fail
  go_loopw [3, 9] (fun t i wr => ∃ k : Nat, k ≤ l.length ∧ i = .int .i64 k ∧ t = .int .i64 (costN l k) ∧ Below w2.heap.size w2 wr) (fun _ i _ => l.length - (intOf i).toNat)
  case atStart => exact ⟨0, Nat.zero_le _, rfl, rfl, Below.refl _ _⟩
  case round =>
    obtain ⟨k, hk, rfl, rfl, hb⟩ := hrel
    by_cases hlt : k < l.length
    · have hb0 := HB2.out.trans (hb.mono HB2.out.size)
      obtain ⟨bb, off, rfl, hc⟩ := HI.out.below hb0 k hlt
      obtain ⟨br, offr, rfl, cr⟩ := HR.out.below hb k (by rw [issN_len]; exact hlt)
      have c0 := hc.c0
      have HN : Hid (costN l (k + 1) = max (costN l k) ((issN l l.length).getD k 0 + lat (atC l k).op)) := Lib.hid rfl
      have hs := issN_small l l.length k hlt
      have hcs := costN_small l k hk
      have hls := lat_small (atC l k).op
      have HB := Lib.hid hb
      clear hb hb0 hc
      generalize (issN l l.length).getD k 0 = t at *
      generalize (atC l k).op = op at *
      generalize costN l k = cn at *
      have HLat := Lib.hid (tLat_any op)
      generalize hlv : lat op = lv at *
      have HLv := Lib.hid hlv; clear hlv
      go_wp2_with (first | (go_at_call 43; refine (HLat.out _).mono ?_; rintro e w11 ⟨rfl, rfl⟩; rw [HLv.out]))
      go_roundw
      case rel => exact ⟨k + 1, by omega, by go_num, by rw [HN.out], HB.out⟩
      case measure => simp [intOf]; omega
    · obtain rfl : k = l.length := by omega
      have HB := Lib.hid hb
      clear hb
      go_wp2_with fail
      go_ret
      exact ⟨rfl, HB2.out.trans (HB.out.mono HB2.out.size)⟩
theorem tErr_zero {l : List Cd} (h : tErr l = 0) : l.length ≤ 40 ∧ ∀ k, k < l.length → okC (atC l k) = true := by
  unfold tErr at h
  split at h
  · cases h
  · split at h
    · rename_i h1 h2
      exact ⟨by omega, fun k hk => (List.all_eq_true.1 h2) _ (atC_mem hk)⟩
    · cases h
/-- The answers of Issue and of Cost. -/
def issueL (l : List Cd) : List Int := if tErr l = 0 then issN l l.length else []
def costV (l : List Cd) : Int := if tErr l = 0 then costN l l.length else 0
def IssuePost (l : List Cd) (w : World) (e : Ending) (w' : World) : Prop := (∃ ra rc, e = .returned (.tuple #[.slice ra (issueL l).length rc, .int .i64 (tErr l)]) ∧ IntsIn w' ra (issueL l)) ∧ Below w.heap.size w w'
def CostPost (l : List Cd) (w : World) (e : Ending) (w' : World) : Prop := e = .returned (.tuple #[.int .i64 (costV l), .int .i64 (tErr l)]) ∧ Below w.heap.size w w'
theorem issue_bad (l : List Cd) (w w' : World) (v : Int) (hv : v = tErr l) (h : tErr l ≠ 0) (hb : Below w.heap.size w w') : IssuePost l w (.returned (.tuple #[.slice none 0 0, .int .i64 v])) w' := by
  subst hv
  have e : issueL l = [] := if_neg h
  refine ⟨⟨none, 0, ?_, ?_⟩, hb⟩
  · rw [e]; rfl
  · rw [e]; exact IntsIn.nil _ _
theorem issue_good (l : List Cd) (w w' : World) (ra : Option Addr) (rc : Nat) (h : tErr l = 0) (hi : IntsIn w' ra (issN l l.length)) (hb : Below w.heap.size w w') : IssuePost l w (.returned (.tuple #[.slice ra l.length rc, .int .i64 0])) w' := by
  have e : issueL l = issN l l.length := if_pos h
  refine ⟨⟨ra, rc, ?_, ?_⟩, hb⟩
  · rw [e, h, issN_len]
  · rw [e]; exact hi
theorem cost_bad (l : List Cd) (w w' : World) (v : Int) (hv : v = tErr l) (h : tErr l ≠ 0) (hb : Below w.heap.size w w') : CostPost l w (.returned (.tuple #[.int .i64 0, .int .i64 v])) w' := by
  subst hv
  exact ⟨by rw [show costV l = 0 from if_neg h], hb⟩
theorem cost_good (l : List Cd) (w w' : World) (v : Int) (h : tErr l = 0) (hv : v = costN l l.length) (hb : Below w.heap.size w w') : CostPost l w (.returned (.tuple #[.int .i64 v, .int .i64 0])) w' := by
  subst hv
  exact ⟨by rw [show costV l = costN l l.length from if_pos h, h], hb⟩
set_option maxHeartbeats 1000000 in
theorem Issue_any (l : List Cd) (a : Option Addr) (cap : Nat) (w : World) (hin : CdsIn w a l) (hl : l.length ≤ 1099511627776) : Calls Try.prog 12 #[.slice a l.length cap] w (IssuePost l w) := by
  have HI := Lib.hid hin
  have HV := Lib.hid (tValidate_any l a cap w hin hl)
  have HBad := Lib.hid (issue_bad l w)
  have HGood := Lib.hid (issue_good l w)
  have HZ := Lib.hid (@tErr_zero l)
  have HIs := Lib.hid (fun h1 h2 w' h => @issue_at l h1 h2 a cap w' h)
  clear hin
  generalize tErr l = te at *
  go_enter Try.func12, Try.ntmps12
  go_wp2_with fail
  refine HV.out.mono ?_; rintro e w2 ⟨rfl, hb2⟩
  have HB2 := Lib.hid hb2
  clear hb2
  by_cases hz : te = 0
  · subst hz
    obtain ⟨h1, h2⟩ := HZ.out rfl
    have HK := Lib.hid (HIs.out h1 h2 w2 (HI.out.below HB2.out))
    clear h2
    go_wp2_with fail
    refine HK.out.mono ?_; rintro e w3 ⟨⟨ra, rc, rfl, hri⟩, hb3⟩
    have HR := Lib.hid hri
    have HB3 := Lib.hid (HB2.out.trans (hb3.mono HB2.out.size))
    clear hri hb3
    go_wp2_with fail
    go_ret2
    exact HGood.out _ _ _ (by trivial) HR.out HB3.out
  · go_wp2_with fail
    go_ret2
    exact HBad.out _ _ rfl hz HB2.out
set_option maxHeartbeats 1000000 in
theorem Cost_any (l : List Cd) (a : Option Addr) (cap : Nat) (w : World) (hin : CdsIn w a l) (hl : l.length ≤ 1099511627776) : Calls Try.prog 14 #[.slice a l.length cap] w (CostPost l w) := by
  have HI := Lib.hid hin
  have HV := Lib.hid (tValidate_any l a cap w hin hl)
  have HBad := Lib.hid (cost_bad l w)
  have HGood := Lib.hid (cost_good l w)
  have HZ := Lib.hid (@tErr_zero l)
  have HIs := Lib.hid (fun w' h h1 h2 => cost_any l a cap w' h h1 h2)
  clear hin
  generalize tErr l = te at *
  go_enter Try.func14, Try.ntmps14
  go_wp2_with fail
  refine HV.out.mono ?_; rintro e w2 ⟨rfl, hb2⟩
  have HB2 := Lib.hid hb2
  clear hb2
  by_cases hz : te = 0
  · subst hz
    obtain ⟨h1, h2⟩ := HZ.out rfl
    have HK := Lib.hid (HIs.out w2 (HI.out.below HB2.out) h1 h2)
    clear h2
    go_wp2_with fail
    refine HK.out.mono ?_; rintro e w3 ⟨rfl, hb3⟩
    have HB3 := Lib.hid (HB2.out.trans (hb3.mono HB2.out.size))
    clear hb3
    go_wp2_with fail
    go_ret2
    exact HGood.out _ _ (by trivial) rfl HB3.out
  · go_wp2_with fail
    go_ret2
    exact HBad.out _ _ rfl hz HB2.out
end Go.Proofs.Ytccpjfppkahbmaa
