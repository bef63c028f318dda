/- The law SatModels. -/
import Derived.Test.YtahaoddilejpnaaHQ
import Derived.Test.YtahaoddilejpnaaHS
import Derived.Test.YtahaoddilejpnaaL2
namespace Go.Proofs.Ytahaoddilejpnaa
open Go.RowKit

theorem mod_ok {n : Int} {g : List (List Int)} (h : modE n g = 0) : validE n g = 0 ∧ n ≤ 12 := by
  unfold modE at h
  split at h
  · split at h
    · exact ⟨by assumption, by assumption⟩
    · omega
  · contradiction
/-- Clauses with a literal taken as true: valid, and counted. -/
theorem assign_mod {n l : Int} {g : List (List Int)} (hs : Short g) (h : modE n g = 0) (hl : litB n l = true) : assignE n g l = 0 ∧ assignR n g l = assignL l g ∧ modE n (assignL l g) = 0 ∧ modN n (assignL l g) = cntTo n.toNat (assignL l g) (2 ^ n.toNat) := by
  obtain ⟨hv, h12⟩ := mod_ok h
  have hok := validE_ok hv
  have hv2 : validE n (assignL l g) = 0 := validE_zero hok.1 hok.2.1 (by have := assign_len l g; have := hs.len; omega) (assign_lits (allLits_of hok.2.2))
  refine ⟨?_, ?_, ?_, ?_⟩
  · unfold assignE; rw [if_pos hv, if_pos hl]
  · unfold assignR; rw [if_pos hv, if_pos hl]
  · unfold modE; rw [if_pos hv2, if_pos h12]
  · unfold modN; rw [if_pos hv2, if_pos h12]
theorem mod_both {n v : Int} {g : List (List Int)} (hs : Short g) (h : modE n g = 0) (h1 : 1 ≤ v) (h2 : v ≤ n) : (modN n (assignR n g v) : Int) + (modN n (assignR n g (-v)) : Int) = 2 * (modN n g : Int) := by
  obtain ⟨hv, h12⟩ := mod_ok h
  have hok := validE_ok hv
  have hl : litB n v = true := by unfold litB; apply decide_eq_true; omega
  have hl' : litB n (-v) = true := by unfold litB; apply decide_eq_true; omega
  obtain ⟨_, e1, _, e2⟩ := assign_mod hs h hl
  obtain ⟨_, e3, _, e4⟩ := assign_mod hs h hl'
  have e5 : modN n g = cntTo n.toNat g (2 ^ n.toNat) := by unfold modN; rw [if_pos hv, if_pos h12]
  have en : ((n.toNat : Nat) : Int) = n := by omega
  have := cnt_both (n := n.toNat) (v := v) (g := g) (by rw [en]; exact hl) (by rw [en]; exact allLits_of hok.2.2)
  rw [e1, e3, e2, e4, e5]
  omega
theorem modN_le (n : Int) (g : List (List Int)) : modN n g ≤ 4096 := by
  unfold modN
  split
  · split
    · exact Nat.le_trans (cntTo_le _ _ _) (pow_le (by omega))
    · omega
  · omega
set_option maxRecDepth 100000 in
set_option maxHeartbeats 1000000 in
theorem satModels_any (n v : Int) (g : List (List Int)) (a : Option Addr) (cap : Nat) (w : World) (hin : RowsIn w a g) (hg : g.length ≤ maxLen) (hr : ∀ k, k < g.length → (g.getD k []).length ≤ maxLen) :
    Calls Try.prog 6 #[.int .i64 n, .slice a g.length cap, .int .i64 v] w fun e w' => e = .returned (.bool true) ∧ Below w.heap.size w w' := by
  have HL := Lib.hid (long_any n g a cap w hin hg hr)
  have HK := Lib.hid known_any
  cases hlo : longB n g
  rotate_left
  · rw [hlo] at HL
    clear hin hg hr hlo
    generalize g.length = p at *
    go_enter Try.func6, Try.ntmps6
    go_wp2_with fail
    refine HL.out.mono ?_; rintro e w2 ⟨rfl, rfl⟩
    go_wp2_with fail
    refine (HK.out _).mono ?_; rintro e w2 ⟨rfl, hb2⟩
    go_wp2_with fail
    go_ret
    exact ⟨rfl, hb2⟩
  rw [hlo] at HL
  have hs := short_of hlo
  have HA := Lib.hid (sModels_any n g a cap w hin hs)
  have HB : Hid (∀ W, Below w.heap.size w W → Calls Try.prog 14 #[.int .i64 n, .slice a g.length cap] W fun e w' => e = .returned (.tuple #[.int .i64 (modN n g : Nat), .int .i64 (modE n g)]) ∧ W = w') :=
    Lib.hid fun W hb => rModels_any n g a cap W (hin.below hb) hs
  have HC : Hid (∀ W l, Below w.heap.size w W → Calls Try.prog 23 #[.int .i64 n, .slice a g.length cap, .int .i64 l] W fun e w' => (∃ v, e = .returned (.tuple #[v, .int .i64 (assignE n g l)]) ∧ RowsOwn w' W.heap.size v (assignR n g l)) ∧ Below W.heap.size W w') :=
    Lib.hid fun W l hb => sAssign_any n l g a cap W (hin.below hb) hs
  have HSh : Hid (∀ l, Short (assignR n g l)) := Lib.hid fun l => assignR_short hs
  have HM : Hid (∀ l, modE n g = 0 → litB n l = true → assignE n g l = 0 ∧ modE n (assignR n g l) = 0) := Lib.hid fun l h1 h2 => by
    obtain ⟨e1, e2, e3, _⟩ := assign_mod hs h1 h2
    exact ⟨e1, by rw [e2]; exact e3⟩
  have HT : Hid (modE n g = 0 → 1 ≤ v → v ≤ n → (modN n (assignR n g v) : Int) + (modN n (assignR n g (-v)) : Int) = 2 * (modN n g : Int)) := Lib.hid (mod_both hs)
  have HN : Hid (modE n g = 0 → 0 ≤ n ∧ n ≤ 12) := Lib.hid fun h => ⟨(validE_ok (mod_ok h).1).1, (mod_ok h).2⟩
  clear hin hg hr hlo hs
  have hle := modN_le n g
  have hxx : ((modN n g : Int) != (modN n g : Int)) = false := by simp
  have hyy : (modE n g != modE n g) = false := by simp
  generalize modE n g = E at *
  generalize modN n g = M at *
  generalize g.length = p at *
  by_cases hE : E = 0
  rotate_left
  · have hE' : (E != 0) = true := by simpa using hE
    go_enter Try.func6, Try.ntmps6
    go_wp2_with fail
    refine HL.out.mono ?_; rintro e w2 ⟨rfl, rfl⟩
    go_wp2_with fail
    refine HA.out.mono ?_; rintro e w2 ⟨rfl, hb2⟩
    have HB2 := Lib.hid hb2; clear hb2
    go_wp2_with fail
    refine (HB.out _ HB2.out).mono ?_; rintro e w3 ⟨rfl, rfl⟩
    go_wp2_with fail
    refine (HK.out _).mono ?_; rintro e w4 ⟨rfl, hb4⟩
    go_wp2_with fail
    go_ret
    exact ⟨rfl, HB2.out.trans (hb4.mono HB2.out.size)⟩
  subst hE
  by_cases hv1 : v < 1
  · go_enter Try.func6, Try.ntmps6
    go_wp2_with fail
    refine HL.out.mono ?_; rintro e w2 ⟨rfl, rfl⟩
    go_wp2_with fail
    refine HA.out.mono ?_; rintro e w2 ⟨rfl, hb2⟩
    have HB2 := Lib.hid hb2; clear hb2
    go_wp2_with fail
    refine (HB.out _ HB2.out).mono ?_; rintro e w3 ⟨rfl, rfl⟩
    go_wp2_with fail
    refine (HK.out _).mono ?_; rintro e w4 ⟨rfl, hb4⟩
    go_wp2_with fail
    go_ret
    exact ⟨rfl, HB2.out.trans (hb4.mono HB2.out.size)⟩
  by_cases hv2 : n < v
  · go_enter Try.func6, Try.ntmps6
    go_wp2_with fail
    refine HL.out.mono ?_; rintro e w2 ⟨rfl, rfl⟩
    go_wp2_with fail
    refine HA.out.mono ?_; rintro e w2 ⟨rfl, hb2⟩
    have HB2 := Lib.hid hb2; clear hb2
    go_wp2_with fail
    refine (HB.out _ HB2.out).mono ?_; rintro e w3 ⟨rfl, rfl⟩
    go_wp2_with fail
    refine (HK.out _).mono ?_; rintro e w4 ⟨rfl, hb4⟩
    go_wp2_with fail
    go_ret
    exact ⟨rfl, HB2.out.trans (hb4.mono HB2.out.size)⟩
  have hn := HN.out rfl
  obtain ⟨hn0, hn12⟩ := hn
  have hl1 : litB n v = true := by unfold litB; apply decide_eq_true; omega
  have hl2 : litB n (-v) = true := by unfold litB; apply decide_eq_true; omega
  have hm1 := HM.out v rfl hl1
  have hm2 := HM.out (-v) rfl hl2
  have ht := HT.out rfl (by omega) (by omega)
  have HC1 : Hid (∀ W, Below w.heap.size w W → Calls Try.prog 23 #[.int .i64 n, .slice a p cap, .int .i64 v] W fun e w' => (∃ v', e = .returned (.tuple #[v', .int .i64 0]) ∧ RowsOwn w' W.heap.size v' (assignR n g v)) ∧ Below W.heap.size W w') := Lib.hid fun W hb => by
    have := HC.out W v hb
    rwa [hm1.1] at this
  have HC2 : Hid (∀ W, Below w.heap.size w W → Calls Try.prog 23 #[.int .i64 n, .slice a p cap, .int .i64 (-v)] W fun e w' => (∃ v', e = .returned (.tuple #[v', .int .i64 0]) ∧ RowsOwn w' W.heap.size v' (assignR n g (-v))) ∧ Below W.heap.size W w') := Lib.hid fun W hb => by
    have := HC.out W (-v) hb
    rwa [hm2.1] at this
  have HD1 : Hid (∀ W b c, RowsIn W b (assignR n g v) → Calls Try.prog 22 #[.int .i64 n, .slice b (assignR n g v).length c] W fun e w' => e = .returned (.tuple #[.int .i64 (modN n (assignR n g v) : Nat), .int .i64 0]) ∧ Below W.heap.size W w') := Lib.hid fun W b c h => by
    have := sModels_any n _ b c W h (HSh.out v)
    rwa [hm1.2] at this
  have HD2 : Hid (∀ W b c, RowsIn W b (assignR n g (-v)) → Calls Try.prog 22 #[.int .i64 n, .slice b (assignR n g (-v)).length c] W fun e w' => e = .returned (.tuple #[.int .i64 (modN n (assignR n g (-v)) : Nat), .int .i64 0]) ∧ Below W.heap.size W w') := Lib.hid fun W b c h => by
    have := sModels_any n _ b c W h (HSh.out (-v))
    rwa [hm2.2] at this
  have hx := modN_le n (assignR n g v)
  have hy := modN_le n (assignR n g (-v))
  clear hm1 hm2 HM HT HC HN hl1 hl2
  generalize modN n (assignR n g v) = X at *
  generalize modN n (assignR n g (-v)) = Y at *
  generalize assignR n g v = R1 at *
  generalize assignR n g (-v) = R2 at *
  have hz : ((X : Int) + (Y : Int) == 2 * (M : Int)) = true := by simpa using ht
  go_enter Try.func6, Try.ntmps6
  go_wp2_with fail
  refine HL.out.mono ?_; rintro e w2 ⟨rfl, rfl⟩
  go_wp2_with fail
  refine HA.out.mono ?_; rintro e w2 ⟨rfl, hb2⟩
  have HB2 := Lib.hid hb2; clear hb2
  go_wp2_with fail
  refine (HB.out _ HB2.out).mono ?_; rintro e w3 ⟨rfl, rfl⟩
  go_wp2_with fail
  refine (HC1.out _ HB2.out).mono ?_; rintro e w4 ⟨⟨r1, rfl, hr1⟩, hb4⟩
  have HB4 := Lib.hid (HB2.out.trans (hb4.mono HB2.out.size)); have HR1 := Lib.hid hr1; clear hb4 hr1
  go_wp2_with fail
  refine (HC2.out _ HB4.out).mono ?_; rintro e w5 ⟨⟨r2, rfl, hr2⟩, hb5⟩
  have HB5 := Lib.hid (HB4.out.trans (hb5.mono HB4.out.size)); have HR2 := Lib.hid hr2
  obtain ⟨b1, c1, rfl, hi1⟩ := (HR1.out.below hb5).rows
  have HI1 := Lib.hid (HD1.out _ b1 c1 hi1)
  obtain ⟨b2, c2, rfl, hi2⟩ := hr2.rows
  have HI2 := Lib.hid hi2
  clear hb5 hr2 hi1 hi2
  go_wp2_with fail
  refine HI1.out.mono ?_; rintro e w6 ⟨rfl, hb6⟩
  have HB6 := Lib.hid (HB5.out.trans (hb6.mono HB5.out.size))
  have HJ2 := Lib.hid (HD2.out _ b2 c2 (HI2.out.below hb6))
  clear hb6
  go_wp2_with fail
  refine HJ2.out.mono ?_; rintro e w7 ⟨rfl, hb7⟩
  have HB7 := Lib.hid (HB6.out.trans (hb7.mono HB6.out.size)); clear hb7
  go_wp2_with fail
  refine (HK.out _).mono ?_; rintro e w8 ⟨rfl, hb8⟩
  go_wp2_with fail
  go_ret
  exact ⟨rfl, HB7.out.trans (hb8.mono HB7.out.size)⟩
end Go.Proofs.Ytahaoddilejpnaa
