/- The law SatPures. -/
import Derived.Test.YtahaoddilejpnaaPC
import Derived.Test.YtahaoddilejpnaaL3
namespace Go.Proofs.Ytahaoddilejpnaa
open Go.RowKit

theorem pure_pos {n : Nat} {l : Int} {g : List (List Int)} (h : litB n l = true) (hg : AllLits n g) (hno : occB g (-l) = false) : (0 < cntTo n g (2 ^ n)) ↔ 0 < cntTo n (assignL l g) (2 ^ n) := by
  have hb := lit_bds h
  rw [cnt_assign h hg, cnt_eq]
  constructor
  · intro hp
    obtain ⟨b, hb1, hb2⟩ := List.countP_pos_iff.1 hp
    have hb1 := List.mem_range.1 hb1
    have : 0 < (List.range (2 ^ n)).countP fun b => holdsB g (bitsM n b) && litT (bitsM n b) l := by
      rw [List.countP_pos_iff]
      cases ht : litT (bitsM n b) l
      · refine ⟨flipB (l.natAbs - 1) b, List.mem_range.2 (flip_lt (by omega) hb1), ?_⟩
        rw [litT_flip h, ht, Bool.not_false, Bool.and_true]
        unfold holdsB at hb2 ⊢
        rw [List.all_eq_true] at hb2 ⊢
        intro k hk
        have h1 := hb2 k hk
        rw [List.any_eq_true] at h1 ⊢
        obtain ⟨x, hx, hx2⟩ := h1
        refine ⟨x, hx, ?_⟩
        rw [litT_other h (hg k hk x hx) (fun e => by rw [e, ht] at hx2; cases hx2) (fun e => by
          have : occB g (-l) = true := occ_mem.2 (List.mem_flatten.2 ⟨k, hk, e ▸ hx⟩)
          rw [hno] at this; cases this)]
        exact hx2
      · exact ⟨b, List.mem_range.2 hb1, by rw [hb2, ht]; rfl⟩
    omega
  · intro hp
    have hp2 : 0 < (List.range (2 ^ n)).countP fun b => holdsB g (bitsM n b) && litT (bitsM n b) l := by omega
    obtain ⟨b, hb1, hb2⟩ := List.countP_pos_iff.1 hp2
    rw [Bool.and_eq_true] at hb2
    exact List.countP_pos_iff.2 ⟨b, hb1, hb2.1⟩
/-- What a pure literal owes. -/
theorem pure_facts {n : Int} {g : List (List Int)} (hs : Short g) (h : modE n g = 0) (k : Nat) (hk : k < (pureR n g).length) : assignE n g ((pureR n g).getD k 0) = 0 ∧ modE n (assignR n g ((pureR n g).getD k 0)) = 0 ∧ ((0 < modN n g) ↔ 0 < modN n (assignR n g ((pureR n g).getD k 0))) := by
  obtain ⟨hv, h12⟩ := mod_ok h
  have hok := validE_ok hv
  have en : ((n.toNat : Nat) : Int) = n := by omega
  have hal := allLits_of hok.2.2
  have hm := getD_mem (pureR n g) 0 k hk
  generalize (pureR n g).getD k 0 = l at *
  unfold pureR at hm
  rw [if_pos hv] at hm
  have hp := (List.mem_filter.1 hm).2
  unfold pureB at hp
  rw [Bool.and_eq_true, Bool.and_eq_true] at hp
  obtain ⟨kk, hkk, hx⟩ := List.mem_flatten.1 (occ_mem.1 hp.1.2)
  have hl := hal kk hkk l hx
  obtain ⟨e1, e2, e3, e4⟩ := assign_mod hs h hl
  refine ⟨e1, by rw [e2]; exact e3, ?_⟩
  rw [e2, e4]
  have e5 : modN n g = cntTo n.toNat g (2 ^ n.toNat) := by unfold modN; rw [if_pos hv, if_pos h12]
  rw [e5]
  have hno : occB g (-l) = false := by simpa using hp.2
  exact pure_pos (by rw [en]; exact hl) (by rw [en]; exact hal) hno
theorem pureR_len {n : Int} {g : List (List Int)} : (pureR n g).length ≤ 8001 := by
  unfold pureR
  split
  · rename_i h
    have := validE_ok h
    exact Nat.le_trans (filter_len _ _) (by simp [span]; omega)
  · exact Nat.zero_le _
set_option maxRecDepth 100000 in
set_option maxHeartbeats 2000000 in
theorem satPures_any (n : Int) (g : List (List Int)) (a : Option Addr) (cap : Nat) (w : World) (hin : RowsIn w a g) (hg : g.length ≤ maxLen) (hr : ∀ k, k < g.length → (g.getD k []).length ≤ maxLen) :
    Calls Try.prog 8 #[.int .i64 n, .slice a g.length cap] w fun e w' => e = .returned (.bool true) ∧ Below w.heap.size w w' := by
  have HL := Lib.hid (long_any n g a cap w hin hg hr)
  have HK := Lib.hid known_any
  cases hlo : longB n g
  rotate_left
  · rw [hlo] at HL
    clear hin hg hr hlo
    generalize g.length = p at *
    go_enter Try.func8, Try.ntmps8
    go_wp2_with fail
    refine HL.out.mono ?_; rintro e w2 ⟨rfl, rfl⟩
    go_wp2_with fail
    refine (HK.out _).mono ?_; rintro e w2 ⟨rfl, hb2⟩
    go_wp2_with fail
    go_ret
    exact ⟨rfl, hb2⟩
  rw [hlo] at HL
  have hs := short_of hlo
  have HA := Lib.hid (sPure_any n g a cap w hin hs)
  have HB : Hid (∀ W, Below w.heap.size w W → Calls Try.prog 26 #[.int .i64 n, .slice a g.length cap] W fun e w' => (∃ z, e = .returned (.tuple #[z, .int .i64 (validE n g)]) ∧ w'.ownsRow W.heap.size 3 1 z (pureR n g).length (encI (pureR n g))) ∧ Below W.heap.size W w') :=
    Lib.hid fun W hb => rPure_any n g a cap W (hin.below hb) hs
  have HC : Hid (∀ W, Below w.heap.size w W → Calls Try.prog 22 #[.int .i64 n, .slice a g.length cap] W fun e w' => e = .returned (.tuple #[.int .i64 (modN n g : Nat), .int .i64 (modE n g)]) ∧ Below W.heap.size W w') :=
    Lib.hid fun W hb => sModels_any n g a cap W (hin.below hb) hs
  have HD : Hid (∀ W l, Below w.heap.size w W → Calls Try.prog 23 #[.int .i64 n, .slice a g.length cap, .int .i64 l] W fun e w' => (∃ v, e = .returned (.tuple #[v, .int .i64 (assignE n g l)]) ∧ RowsOwn w' W.heap.size v (assignR n g l)) ∧ Below W.heap.size W w') :=
    Lib.hid fun W l hb => sAssign_any n l g a cap W (hin.below hb) hs
  have HM : Hid (∀ W l b c, RowsIn W b (assignR n g l) → Calls Try.prog 22 #[.int .i64 n, .slice b (assignR n g l).length c] W fun e w' => e = .returned (.tuple #[.int .i64 (modN n (assignR n g l) : Nat), .int .i64 (modE n (assignR n g l))]) ∧ Below W.heap.size W w') :=
    Lib.hid fun W l b c h => sModels_any n _ b c W h (assignR_short hs)
  have HF : Hid (modE n g = 0 → ∀ k, k < (pureR n g).length → assignE n g ((pureR n g).getD k 0) = 0 ∧ modE n (assignR n g ((pureR n g).getD k 0)) = 0 ∧ ((0 < modN n g) ↔ 0 < modN n (assignR n g ((pureR n g).getD k 0)))) := Lib.hid fun h k hk => pure_facts hs h k hk
  have hRl := pureR_len (n := n) (g := g)
  clear hin hg hr hlo hs
  have hee : (validE n g != validE n g) = false := by simp
  generalize validE n g = V at *
  generalize modE n g = E at *
  generalize modN n g = M at *
  generalize pureR n g = R at *
  generalize hgl : g.length = p at *
  clear hgl
  by_cases hE : E = 0
  rotate_left
  · have hE' : (E != 0) = true := by simpa using hE
    clear HD HM HF
    go_enter Try.func8, Try.ntmps8
    go_wp2_with fail
    refine HL.out.mono ?_; rintro e w2 ⟨rfl, rfl⟩
    go_wp2_with fail
    refine HA.out.mono ?_; rintro e w2 ⟨⟨v2, rfl, hv2⟩, hb2⟩
    have HB2 := Lib.hid hb2; have HV2 := Lib.hid hv2; clear hb2 hv2
    go_wp2_with fail
    refine (HB.out _ HB2.out).mono ?_; rintro e w3 ⟨⟨v3, rfl, hv3⟩, hb3⟩
    have HB3 := Lib.hid (HB2.out.trans (hb3.mono HB2.out.size))
    obtain ⟨a2, c2, rfl, _, hr2⟩ := ints_of_owns (owns_below HV2.out hb3)
    obtain ⟨a3, c3, rfl, _, hr3⟩ := ints_of_owns hv3
    have HS := Lib.hid (sameInts_any R a2 a3 c2 c3 w3 hr2 hr3 (by omega))
    clear hb3 hv3 hr2 hr3
    go_wp2_with fail
    refine HS.out.mono ?_; rintro e w4 ⟨rfl, m4, rfl⟩
    have HB4 := Lib.hid (below_drewN HB3.out m4)
    go_wp2_with fail
    refine (HC.out _ HB4.out).mono ?_; rintro e w5 ⟨rfl, hb5⟩
    have HB5 := Lib.hid (HB4.out.trans (hb5.mono HB4.out.size)); clear hb5
    go_wp2_with fail
    refine (HK.out _).mono ?_; rintro e w6 ⟨rfl, hb6⟩
    go_wp2_with fail
    go_ret
    exact ⟨rfl, HB5.out.trans (hb6.mono HB5.out.size)⟩
  subst hE
  have HF2 := Lib.hid (HF.out rfl)
  clear HF
  go_enter Try.func8, Try.ntmps8
  go_wp2_with fail
  refine HL.out.mono ?_; rintro e w2 ⟨rfl, rfl⟩
  go_wp2_with fail
  refine HA.out.mono ?_; rintro e w2 ⟨⟨v2, rfl, hv2⟩, hb2⟩
  have HB2 := Lib.hid hb2; have HV2 := Lib.hid hv2; clear hb2 hv2
  go_wp2_with fail
  refine (HB.out _ HB2.out).mono ?_; rintro e w3 ⟨⟨v3, rfl, hv3⟩, hb3⟩
  have HB3 := Lib.hid (HB2.out.trans (hb3.mono HB2.out.size))
  obtain ⟨a2, c2, rfl, _, hr2⟩ := ints_of_owns (owns_below HV2.out hb3)
  obtain ⟨a3, c3, rfl, _, hr3⟩ := ints_of_owns hv3
  have HS := Lib.hid (sameInts_any R a2 a3 c2 c3 w3 hr2 hr3 (by omega))
  have HR2 := Lib.hid hr2
  clear hb3 hv3 hr2 hr3
  go_wp2_with fail
  refine HS.out.mono ?_; rintro e w4 ⟨rfl, m4, rfl⟩
  have HB4 := Lib.hid (below_drewN HB3.out m4)
  have HR4 := Lib.hid (HR2.out.below (below_drewN (Below.refl _ w3) m4))
  generalize w3.drewN m4 = w4 at *
  go_wp2_with fail
  refine (HC.out _ HB4.out).mono ?_; rintro e w5 ⟨rfl, hb5⟩
  have HB5 := Lib.hid (HB4.out.trans (hb5.mono HB4.out.size)); have HR5 := Lib.hid (HR4.out.below hb5); clear hb5
  go_wp2_with fail
  go_loopw [11] (fun i wr => ∃ k : Nat, k ≤ R.length ∧ k ≤ 6 ∧ i = .int .i64 k ∧ Below w5.heap.size w5 wr) (fun i _ => R.length - (intOf i).toNat)
  case atStart => exact ⟨0, Nat.zero_le _, Nat.zero_le _, rfl, Below.refl _ _⟩
  case round =>
    obtain ⟨k, hk, hk6, rfl, hb⟩ := hrel
    have HBr := Lib.hid hb
    have HBw : Hid (Below w.heap.size w wr) := Lib.hid (HB5.out.trans (hb.mono HB5.out.size))
    by_cases hlt : k < R.length ∧ k < 6
    · obtain ⟨hlt1, hlt6⟩ := hlt
      obtain ⟨b2, off2, rfl, hcl⟩ := HR5.out.below hb k hlt1
      obtain ⟨f1, f2, f3⟩ := HF2.out k hlt1
      have hki : (k : Int) < (R.length : Int) := by omega
      have hki6 : (k : Int) < 6 := by omega
      clear hb
      generalize R.getD k 0 = l at *
      have HD2 := Lib.hid (HD.out wr l HBw.out)
      rw [f1] at HD2
      have HM2 : Hid (∀ W b c, RowsIn W b (assignR n g l) → Calls Try.prog 22 #[.int .i64 n, .slice b (assignR n g l).length c] W fun e w' => e = .returned (.tuple #[.int .i64 (modN n (assignR n g l) : Nat), .int .i64 0]) ∧ Below W.heap.size W w') := Lib.hid fun W b c h => by
        have := HM.out W l b c h
        rwa [f2] at this
      have hpp : (!decide (0 < M) == decide (0 < modN n (assignR n g l))) = false := by
        by_cases h0 : 0 < M
        · rw [decide_eq_true h0, decide_eq_true (f3.1 h0)]; rfl
        · rw [decide_eq_false h0, decide_eq_false fun h => h0 (f3.2 h)]; rfl
      clear f1 f2 f3
      generalize modN n (assignR n g l) = X at *
      generalize assignR n g l = Q at *
      go_wp2_with fail
      refine HD2.out.mono ?_; rintro e w6 ⟨⟨v6, rfl, hv6⟩, hb6⟩
      have HB6 := Lib.hid (HBr.out.trans (hb6.mono HBr.out.size))
      obtain ⟨a6, c6, rfl, hr6⟩ := hv6.rows
      have HM6 := Lib.hid (HM2.out w6 a6 c6 hr6)
      clear hb6 hv6 hr6 hcl
      go_wp2_with fail
      refine HM6.out.mono ?_; rintro e w7 ⟨rfl, hb7⟩
      have HB7 := Lib.hid (HB6.out.trans (hb7.mono HB6.out.size)); clear hb7
      go_wp2_with fail
      refine ⟨⟨k + 1, by omega, by omega, by go_num, HB7.out⟩, ?_⟩
      simp [intOf]; omega
    · clear hb
      by_cases h1 : k < R.length
      · have hki : (k : Int) < (R.length : Int) := by omega
        have hk6' : k = 6 := by omega
        subst hk6'
        go_wp2_with fail
        refine (HK.out _).mono ?_; rintro e w6 ⟨rfl, hb6⟩
        go_wp2_with fail
        go_ret
        exact ⟨rfl, HBw.out.trans (hb6.mono HBw.out.size)⟩
      · have hki : ¬ (k : Int) < (R.length : Int) := by omega
        go_wp2_with fail
        refine (HK.out _).mono ?_; rintro e w6 ⟨rfl, hb6⟩
        go_wp2_with fail
        go_ret
        exact ⟨rfl, HBw.out.trans (hb6.mono HBw.out.size)⟩
end Go.Proofs.Ytahaoddilejpnaa
