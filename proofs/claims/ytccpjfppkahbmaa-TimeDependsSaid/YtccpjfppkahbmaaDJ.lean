/- The law TimeDepends. -/
import Derived.Test.YtccpjfppkahbmaaDI
namespace Go.Proofs.Ytccpjfppkahbmaa
open Go.RowKit PK

theorem depL_len (l : List Cd) : (depL l).length ≤ 1600 := by
  unfold depL
  split
  · rename_i h
    have h40 := (tErr_zero h).1
    exact Nat.le_trans (depN_len l l.length) (Nat.mul_le_mul h40 h40)
  · exact Nat.zero_le _
set_option maxRecDepth 100000 in
set_option maxHeartbeats 2000000 in
theorem timeDepends_any (l : List Cd) (a : Option Addr) (cap : Nat) (w : World) (hin : CdsIn w a l) (hlc : l.length ≤ cap) :
    Calls Try.prog 9 #[.slice a l.length cap] w fun e w' => e = .returned (.bool true) ∧ Below w.heap.size w w' := by
  have HK := Lib.hid known_any
  have HLo := Lib.hid (long_any l.length cap a w)
  by_cases h100 : (100 : Int) < (l.length : Int)
  · rw [decide_eq_true h100] at HLo
    clear hin h100 hlc
    generalize l.length = n at *
    go_enter Try.func9, Try.ntmps9
    go_wp2_with fail
    refine HLo.out.mono ?_; rintro e w1 ⟨rfl, rfl⟩
    go_wp2_with fail
    refine (HK.out _).mono ?_; rintro e w2 ⟨rfl, hb2⟩
    go_wp2_with fail
    go_ret
    exact ⟨rfl, hb2⟩
  rw [decide_eq_false h100] at HLo
  have hl : l.length ≤ 1099511627776 := by omega
  have H1 := Lib.hid (fun (w' : World) (hb : Below w.heap.size w w') => Depends_all l a cap w' (hin.below hb) hlc hl)
  have H2 := Lib.hid (fun (w' : World) (hb : Below w.heap.size w w') => rDepends_all l a cap w' (hin.below hb) hl)
  have hil := depL_len l
  have H9 := Lib.hid (fun p q c1 c2 w' h1 h2 => samePairs_self (depL l) p q c1 c2 w' h1 h2 (by omega))
  clear hin hil hl h100 hlc
  unfold PairPost at H1 H2
  generalize depL l = ps at *
  generalize tErr l = te at *
  generalize l.length = n at *
  generalize hpn : List.length ps = pn at *
  clear hpn
  go_enter Try.func9, Try.ntmps9
  go_wp2_with fail
  refine HLo.out.mono ?_; rintro e w1 ⟨rfl, rfl⟩
  clear HLo
  go_wp2_with fail
  refine (H1.out _ (Below.refl _ _)).mono ?_; rintro e w1 ⟨⟨ra, rc, rfl, hr1⟩, hb1⟩
  have HB1 := Lib.hid hb1
  have HR1 := Lib.hid hr1
  clear hb1 hr1 H1
  go_wp2_with fail
  refine (H2.out _ HB1.out).mono ?_; rintro e w2 ⟨⟨rb, rd, rfl, hr2⟩, hb2⟩
  have HB2 := Lib.hid (HB1.out.trans (hb2.mono HB1.out.size))
  have HR1 := Lib.hid (HR1.out.below hb2)
  have HR2 := Lib.hid hr2
  clear hb2 hr2 H2
  go_wp2_with fail
  refine (H9.out _ _ _ _ _ HR1.out HR2.out).mono ?_; rintro e w7 ⟨rfl, hb7⟩
  have HB7 := Lib.hid (HB2.out.trans (hb7.mono HB2.out.size))
  clear hb7
  go_wp2_with fail
  refine (HK.out _).mono ?_; rintro e w8 ⟨rfl, hb8⟩
  have HB8 := Lib.hid (HB7.out.trans (hb8.mono HB7.out.size))
  clear hb8
  go_wp2_with fail
  go_ret
  exact ⟨rfl, HB8.out⟩
end Go.Proofs.Ytccpjfppkahbmaa
