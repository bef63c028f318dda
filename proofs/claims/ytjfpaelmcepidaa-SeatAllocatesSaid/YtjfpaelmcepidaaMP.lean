/- The walk of the specification's Validate, at whatever program. -/
import Derived.Test.YtjfpaelmcepidaaMN
import Derived.Test.YtjfpaelmcepidaaME
import Derived.Test.YtjfpaelmcepidaaNW
namespace Go.Proofs.Ytjfpaelmcepidaa.PK
open Go.RowKit

theorem anyC_bad {l : List Cd} {p : Cd → Bool} {i : Nat} (hi : i < l.length) (h : p (atC l i) = false) : (l.any fun x => !p x) = true := by
  rw [List.any_eq_true]
  exact ⟨_, atC_mem hi, by rw [h]; rfl⟩
theorem anyC_good {l : List Cd} {p : Cd → Bool} (h : ∀ i, i < l.length → p (atC l i) = true) : (l.any fun x => !p x) = false := by
  rw [List.any_eq_false]
  intro x hx
  obtain ⟨k, hk, rfl⟩ := mem_atC hx
  rw [h k hk]; decide
set_option maxHeartbeats 1000000 in
theorem countZ_any (regs : Int) (ls : List (List Cd)) (bl : Option Addr) (cap : Nat) (w : World) (hin : BlkIn w bl ls) (hl : ls.length ≤ 500) (hm : ∀ k, k < ls.length → (atB ls k).length ≤ 9223372036854775807) :
    Calls Try.prog 27 #[.agg #[.int .i64 regs, .slice bl ls.length cap]] w fun e w' => e = .returned (.int .i64 (sumZ ls)) ∧ Below w.heap.size w w' := by
  have HI := Lib.hid hin; have HM := Lib.hid hm
  clear hin hm
  go_enter Try.func27, Try.ntmps27
  go_upto_region 1 with (fail)
  generalize hw0 : w.alloc _ = w0
  generalize hq : w.heap.size = q
  have hb0 : Below w.heap.size w w0 := by rw [← hw0]; exact (Below.refl _ _).alloc (Nat.le_refl _) _
  have h1 : w0.cell? ⟨q, 1, none⟩ = some (.slice bl ls.length cap) := by subst hw0 hq; simp [go_sem]
  have HH1 := Lib.hid h1; have HB0 := Lib.hid hb0
  clear hw0 hq h1 hb0
  go_wp2_with fail
  go_loopw [3, 4] (fun n i wr => ∃ k : Nat, k ≤ ls.length ∧ n = .int .i64 (sumZ (ls.take k)) ∧ i = .int .i64 k ∧ Below w0.heap.size w0 wr) (fun _ i _ => ls.length - (intOf i).toNat)
  case atStart => exact ⟨0, Nat.zero_le _, by simp [sumZ], rfl, Below.refl _ _⟩
  case round =>
    obtain ⟨k, hk, rfl, rfl, hb⟩ := hrel
    have HB := Lib.hid hb
    have h1 := keep HH1.out hb
    by_cases hlt : k < ls.length
    · obtain ⟨b, off, a, cp, rfl, hc, _⟩ := (HI.out.below HB0.out).below hb k hlt
      clear hb
      have hs3 := HM.out k hlt
      have HT := Lib.hid (sumZ_take hlt)
      generalize hsk : sumZ (ls.take k) = sk at *
      generalize hbl : (atB ls k).length = m at *
      clear hsk hbl
      go_wp2_with fail
      go_roundw
      case rel => exact ⟨k + 1, by omega, by rw [HT.out], by go_num, HB.out⟩
      case measure => simp [intOf]; omega
    · obtain rfl : k = ls.length := by omega
      clear hb
      go_wp2_with fail
      go_ret
      exact ⟨ret_int (by rw [List.take_length]), HB0.out.trans (HB.out.mono HB0.out.size)⟩
set_option maxRecDepth 100000 in
set_option maxHeartbeats 8000000 in
theorem rValidateW_any (regs : Int) (ls : List (List Cd)) (bl : Option Addr) (cap : Nat) (w : World) (hin : BlkIn w bl ls) (hl : ls.length ≤ 9223372036854775807) (hm : ∀ k, k < ls.length → (atB ls k).length ≤ 9223372036854775807) :
    Calls Try.prog 8 #[.agg #[.int .i64 regs, .slice bl ls.length cap]] w fun e w' => e = .returned (.int .i64 (progErrW regs ls)) ∧ Below w.heap.size w w' := by
  have HI := Lib.hid hin; have HM := Lib.hid hm
  have HCnt := Lib.hid (fun u (hu : BlkIn u bl ls) h4 => countZ_any regs ls bl cap u hu h4 hm)
  have HW := Lib.hid rwithin_any
  have HRc := Lib.hid (fun (h1 : 0 ≤ regs ∧ regs ≤ 1000000) (h2 : 0 ≤ (ls.length : Int) ∧ (ls.length : Int) ≤ 1000000) k i u => rCode_any (atC (atB ls k) i) regs ls.length h1 h2 u)
  have HRl := Lib.hid rLast_any
  have HE3 : Hid (tooBigW regs ls → progErrW regs ls = 3) := Lib.hid fun h => if_pos h
  clear hin hm
  go_enter Try.func8, Try.ntmps8
  go_upto_region 1 with (fail)
  generalize hw0 : w.alloc _ = w0
  generalize hq : w.heap.size = q
  have hb0 : Below w.heap.size w w0 := by rw [← hw0]; exact (Below.refl _ _).alloc (Nat.le_refl _) _
  have p0 : w0.cell? ⟨q, 0, none⟩ = some (.int .i64 regs) := by subst hw0 hq; simp [go_sem]
  have p1 : w0.cell? ⟨q, 1, none⟩ = some (.slice bl ls.length cap) := by subst hw0 hq; simp [go_sem]
  have HP0 := Lib.hid p0; have HP1 := Lib.hid p1; have HB0 := Lib.hid hb0
  have HI0 := Lib.hid (HI.out.below hb0)
  clear hw0 hq hb0 HI
  go_wp2_with fail
  refine (HW.out _ _ _ _).mono ?_; rintro e v ⟨rfl, rfl⟩
  by_cases g1 : 0 ≤ regs ∧ regs ≤ 200
  rotate_left
  · have HR := Lib.hid (HE3.out (by unfold tooBigW; omega))
    have d1 : (decide ((0 : Int) ≤ regs) && decide (regs ≤ 200)) = false := by
      rw [Bool.and_eq_false_iff]
      by_cases h : 0 ≤ regs
      · exact .inr (decide_eq_false (by omega))
      · exact .inl (decide_eq_false h)
    rw [d1]
    clear g1 d1
    go_wp2_with fail
    go_ret
    exact ⟨ret_int HR.out.symm, HB0.out⟩
  have d1 : (decide ((0 : Int) ≤ regs) && decide (regs ≤ 200)) = true := by simp; omega
  rw [d1]
  go_wp2_with fail
  refine (HW.out _ _ _ _).mono ?_; rintro e v ⟨rfl, rfl⟩
  by_cases g2 : 1 ≤ ls.length ∧ ls.length ≤ 400
  rotate_left
  · have HR := Lib.hid (HE3.out (by unfold tooBigW; omega))
    have d2 : (decide ((1 : Int) ≤ (ls.length : Int)) && decide ((ls.length : Int) ≤ 400)) = false := by
      rw [Bool.and_eq_false_iff]
      by_cases h : 1 ≤ (ls.length : Int)
      · exact .inr (decide_eq_false (by omega))
      · exact .inl (decide_eq_false h)
    rw [d2]
    clear g2 d2
    go_wp2_with fail
    go_ret
    exact ⟨ret_int HR.out.symm, HB0.out⟩
  have d2 : (decide ((1 : Int) ≤ (ls.length : Int)) && decide ((ls.length : Int) ≤ 400)) = true := by simp; omega
  rw [d2]
  obtain ⟨hn0, hn1⟩ := g2
  have HRc2 := Lib.hid (HRc.out (by omega) (by omega))
  clear HRc d1 d2
  go_wp2_with fail
  refine (HCnt.out _ HI0.out (by omega)).mono ?_; rintro e w1 ⟨rfl, hb1⟩
  have HB1 := Lib.hid (HB0.out.trans (hb1.mono HB0.out.size))
  have HP0 := Lib.hid (keep p0 hb1); have HP1 := Lib.hid (keep p1 hb1)
  have HI1 := Lib.hid (HI0.out.below hb1)
  clear hb1 p0 p1 HI0 HCnt
  by_cases g5 : 400 < sumZ ls
  · have HR := Lib.hid (HE3.out (by unfold tooBigW; omega))
    generalize sumZ ls = sm at *
    go_wp2_with fail
    go_ret
    exact ⟨ret_int HR.out.symm, HB1.out⟩
  have HP : Hid (progErrW regs ls = if ls.any (fun l => l.any fun x => !isCodeB x regs ls.length) then 1 else if ls.any badL then 7 else 0) := Lib.hid (if_neg (by unfold tooBigW; omega))
  clear HE3
  generalize hPE : progErrW regs ls = PE at *
  have HPE := Lib.hid hPE; clear hPE
  generalize sumZ ls = sm at *
  have HAny1 := Lib.hid (fun k (hk : k < ls.length) i (hi : i < (atB ls k).length) (h : isCodeB (atC (atB ls k) i) regs ls.length = false) => HP.out.trans (if_pos (anyB_true (p := fun l => l.any fun x => !isCodeB x regs ls.length) k hk (anyC_bad (p := fun x => isCodeB x regs ls.length) hi h))))
  have HAny0 := Lib.hid (fun (h : ∀ k, k < ls.length → ∀ i, i < (atB ls k).length → isCodeB (atC (atB ls k) i) regs ls.length = true) => HP.out.trans (if_neg (by
    rw [anyB_false (p := fun l => l.any fun x => !isCodeB x regs ls.length) fun j hj => anyC_good (p := fun x => isCodeB x regs ls.length) (h j hj)]
    exact Bool.false_ne_true)))
  have HAny1 : Hid (∀ k, k < ls.length → ∀ i, i < (atB ls k).length → isCodeB (atC (atB ls k) i) regs ls.length = false → PE = 1) := HAny1
  have HAny0 : Hid ((∀ k, k < ls.length → ∀ i, i < (atB ls k).length → isCodeB (atC (atB ls k) i) regs ls.length = true) → PE = if ls.any badL then 7 else 0) := HAny0
  clear HP
  generalize hnn : ls.length = n at *
  have HN := Lib.hid hnn; clear hnn
  go_wp2_with fail
  go_loopw [3] (fun i wr => ∃ k : Nat, k ≤ n ∧ i = .int .i64 k ∧ Below w1.heap.size w1 wr ∧ Hid (∀ j, j < k → ∀ i, i < (atB ls j).length → isCodeB (atC (atB ls j) i) regs n = true)) (fun i _ => n - (intOf i).toNat)
  case atStart => exact ⟨0, Nat.zero_le _, rfl, Below.refl _ _, Lib.hid fun j hj => absurd hj (Nat.not_lt_zero _)⟩
  case round =>
    obtain ⟨k, hk, rfl, hb, HOk⟩ := hrel
    have HB := Lib.hid hb
    have p0 := keep HP0.out hb; have p1 := keep HP1.out hb
    by_cases hlt : k < n
    · have hki : (k : Int) < (n : Int) := by omega
      have hk0 : (0 : Int) ≤ (k : Int) := by omega
      have hkl : k < ls.length := by rw [HN.out]; exact hlt
      obtain ⟨tb, to, ba, cp, rfl, hck, hcd⟩ := HI1.out.below hb k hkl
      have HRk := Lib.hid (HRc2.out k)
      have hm4 := HM.out k hlt
      have HCs := Lib.hid hcd
      have HCk := Lib.hid hck
      have HA1 := Lib.hid (HAny1.out k hlt)
      clear hb hcd hck
      generalize hbk : atB ls k = bk at *
      have HBk := Lib.hid hbk; clear hbk
      generalize hml : bk.length = m at *
      have HMl := Lib.hid hml; clear hml
      go_wp2_with fail
      go_loopw [4] (fun j wr' => ∃ i : Nat, i ≤ m ∧ j = .int .i64 i ∧ Below wr.heap.size wr wr' ∧ Hid (∀ j, j < i → isCodeB (atC bk j) regs n = true)) (fun j _ => m - (intOf j).toNat)
      case atStart => exact ⟨0, Nat.zero_le _, rfl, Below.refl _ _, Lib.hid fun j hj => absurd hj (Nat.not_lt_zero _)⟩
      case round =>
        obtain ⟨i, hi, rfl, hb, HIk⟩ := hrel
        have HB2 := Lib.hid (HB.out.trans (hb.mono HB.out.size))
        have p0 := keep HP0.out HB2.out; have p1 := keep HP1.out HB2.out
        have hck := keep HCk.out hb
        by_cases hil : i < m
        · have hii : (i : Int) < (m : Int) := by omega
          have hi0 : (0 : Int) ≤ (i : Int) := by omega
          obtain ⟨bb, off, rfl, hcx⟩ := HCs.out.below hb i (by rw [HMl.out]; exact hil)
          have HRi := Lib.hid (HRk.out i)
          have HA2 := Lib.hid (HA1.out i hil)
          have HIs : Hid (isCodeB (atC bk i) regs n = true → ∀ j, j < i + 1 → isCodeB (atC bk j) regs n = true) := Lib.hid fun h j hj => by
            by_cases e : j = i
            · rw [e]; exact h
            · exact HIk.out j (by omega)
          generalize isCodeB (atC bk i) regs n = yes at *
          generalize atC bk i = x at *
          obtain ⟨x0, x1, x2, x3, x4, x5⟩ := x
          obtain ⟨c0, c1, c2, c3, c4, c5⟩ := hcx
          simp only at c0 c1 c2 c3 c4 c5
          have HRi : Hid (∀ u : World, Calls Try.prog 28 #[.agg #[.int .i64 x0, .int .i64 x1, .int .i64 x2, .int .i64 x3, .int .u32 x4, .int .i64 x5], .int .i64 regs, .int .i64 n] u fun e w' => e = .returned (.bool yes) ∧ Below u.heap.size u w') := HRi
          go_upto_region 9 with (fail)
          go_region_held3 (fun w' => w'.cell? ⟨q, 0, none⟩ = some (.int .i64 regs) ∧ w'.cell? ⟨q, 1, none⟩ = some (.slice (some ⟨tb, to, none⟩) n cap) ∧ w'.cell? ⟨tb, to + k, none⟩ = some (.slice (some ⟨bb, off, none⟩) m cp) ∧ w'.cell? ⟨bb, off + i * 6, none⟩ = some (.int .i64 x0) ∧ w'.cell? ⟨bb, off + i * 6 + 1, none⟩ = some (.int .i64 x1) ∧ w'.cell? ⟨bb, off + i * 6 + 2, none⟩ = some (.int .i64 x2) ∧ w'.cell? ⟨bb, off + i * 6 + 3, none⟩ = some (.int .i64 x3) ∧ w'.cell? ⟨bb, off + i * 6 + 4, none⟩ = some (.int .u32 x4) ∧ w'.cell? ⟨bb, off + i * 6 + 5, none⟩ = some (.int .i64 x5))
            (first | exact ⟨p0, p1, hck, c0, c1, c2, c3, c4, c5⟩ | exact ⟨keep p0 (by assumption), keep p1 (by assumption), keep hck (by assumption), keep c0 (by assumption), keep c1 (by assumption), keep c2 (by assumption), keep c3 (by assumption), keep c4 (by assumption), keep c5 (by assumption)⟩)
            (first | (go_at_call 28; refine (HRi.out _).mono ?_; rintro e w5 ⟨rfl, hb5⟩; have hb5 := (by first | exact below_of_drew hb5 | exact hb5)))
          have HB5 := Lib.hid (hb.trans (hb5.mono hb.size))
          clear hb hb5 c0 c1 c2 c3 c4 c5
          cases yes
          · have HR := Lib.hid (HA2.out rfl)
            go_wp2_with fail
            go_ret
            exact ⟨ret_int (HPE.out.trans HR.out).symm, HB1.out.trans ((HB.out.trans (HB5.out.mono HB.out.size)).mono HB1.out.size)⟩
          · go_wp2_with fail
            go_roundw
            case rel => exact ⟨i + 1, by omega, by go_num, HB5.out, Lib.hid (HIs.out rfl)⟩
            case measure => simp [intOf]; omega
        · obtain rfl : i = m := by omega
          clear hb
          go_wp2_with fail
          go_roundw
          case rel => exact ⟨k + 1, by omega, by go_num, HB2.out, Lib.hid (fun j hj => by
            by_cases e : j = k
            · rw [e, HBk.out, HMl.out]; exact HIk.out
            · exact HOk.out j (by omega))⟩
          case measure => simp [intOf]; omega
    · obtain rfl : k = n := by omega
      clear hb
      have HP2 := Lib.hid (HAny0.out HOk.out)
      have HB71 : Hid (∀ j, j < k → badL (atB ls j) = true → PE = 7) := Lib.hid fun j hj h => HP2.out.trans (if_pos (anyB_true (p := badL) j (by rw [HN.out]; exact hj) h))
      have HB70 : Hid ((∀ j, j < k → badL (atB ls j) = false) → PE = 0) := Lib.hid fun h => HP2.out.trans (if_neg (by
        rw [anyB_false (p := badL) fun j hj => h j (by rw [← HN.out]; exact hj)]
        exact Bool.false_ne_true))
      clear HP2 HAny0 HAny1 HOk HRc2
      go_wp2_with fail
      go_loopw [5] (fun i wr2 => ∃ k2 : Nat, k2 ≤ k ∧ i = .int .i64 k2 ∧ Below wr.heap.size wr wr2 ∧ Hid (∀ j, j < k2 → badL (atB ls j) = false)) (fun i _ => k - (intOf i).toNat)
      case atStart => exact ⟨0, Nat.zero_le _, rfl, Below.refl _ _, Lib.hid fun j hj => absurd hj (Nat.not_lt_zero _)⟩
      case round =>
        obtain ⟨k2, hk2, rfl, hb, HGo⟩ := hrel
        have HB2 := Lib.hid (HB.out.trans (hb.mono HB.out.size))
        have HBr := Lib.hid hb
        have HBW := Lib.hid (HB1.out.trans (HB2.out.mono HB1.out.size))
        have p0 := keep HP0.out HB2.out; have p1 := keep HP1.out HB2.out
        by_cases hlt2 : k2 < k
        · have hki : (k2 : Int) < (k : Int) := by omega
          have hkl : k2 < ls.length := by rw [HN.out]; exact hlt2
          obtain ⟨tb, to, ba, cp, rfl, hck, hcd⟩ := HI1.out.below HB2.out k2 hkl
          have hm4 := HM.out k2 hlt2
          have HCs := Lib.hid hcd
          have HBad := Lib.hid (HB71.out k2 hlt2)
          clear hb hcd
          generalize hbk : atB ls k2 = bk at *
          have HBk := Lib.hid hbk; clear hbk
          have HBn := Lib.hid fun h => HBad.out (badL_nil (l := bk) h)
          have HBt := Lib.hid fun i h1 h2 => HBad.out (badL_true (l := bk) i h1 h2)
          have HBf := Lib.hid (badL_false (l := bk))
          have HBn : Hid (bk.length = 0 → PE = 7) := HBn
          have HBt : Hid (∀ i, i < bk.length → isLastB (atC bk i).op ≠ decide ((i : Int) = bk.length - 1) → PE = 7) := HBt
          clear HBad
          generalize hml : bk.length = m at *
          have HMl := Lib.hid hml; clear hml
          go_wp2_with fail
          clear hck p0 p1
          go_loopw [7] (fun j wr' => ∃ i : Nat, i ≤ m ∧ j = .int .i64 i ∧ wr = wr' ∧ Hid (∀ j : Nat, j < i → isLastB (atC bk j).op = decide ((j : Int) = m - 1))) (fun j _ => m - (intOf j).toNat)
          case atStart => exact ⟨0, Nat.zero_le _, rfl, by trivial, Lib.hid fun j hj => absurd hj (Nat.not_lt_zero _)⟩
          case round =>
            obtain ⟨i, hi, rfl, rfl, HGi⟩ := hrel
            by_cases hil : i < m
            · have hii : (i : Int) < (m : Int) := by omega
              obtain ⟨bb, off, rfl, hcx⟩ := HCs.out i (by rw [HMl.out]; exact hil)
              have c0 := hcx.c0
              have HRi := Lib.hid (HRl.out (atC bk i).op)
              have HT := Lib.hid (HBt.out i hil)
              have HS : Hid (isLastB (atC bk i).op = decide ((i : Int) = m - 1) → ∀ j : Nat, j < i + 1 → isLastB (atC bk j).op = decide ((j : Int) = m - 1)) := Lib.hid fun h j hj => by
                by_cases e : j = i
                · rw [e]; exact h
                · exact HGi.out j (by omega)
              generalize isLastB (atC bk i).op = il at *
              generalize (atC bk i).op = x0 at *
              clear hcx
              by_cases hlst : (i : Int) = (m : Int) - 1
              · have HD := Lib.hid (decide_eq_true hlst)
                have HLs := Lib.hid hlst
                have heq : ((i : Int) == (m : Int) - 1) = true := by rw [beq_iff_eq]; exact hlst
                clear hlst
                cases il
                · have HR := Lib.hid (HT.out (by rw [HD.out]; decide))
                  go_wp2_with fail
                  refine (HRi.out _).mono ?_; rintro e v ⟨rfl, rfl⟩
                  go_wp2_with fail
                  go_ret
                  exact ⟨ret_int (HPE.out.trans HR.out).symm, HBW.out⟩
                · go_wp2_with fail
                  refine (HRi.out _).mono ?_; rintro e v ⟨rfl, rfl⟩
                  go_wp2_with fail
                  go_roundw
                  case rel => exact ⟨i + 1, by omega, by go_num, by trivial, Lib.hid (HS.out HD.out.symm)⟩
                  case measure => simp [intOf]; omega
              · have HD := Lib.hid (decide_eq_false hlst)
                have heq : ((i : Int) == (m : Int) - 1) = false := by rw [beq_eq_false_iff_ne]; exact hlst
                cases il
                · go_wp2_with fail
                  refine (HRi.out _).mono ?_; rintro e v ⟨rfl, rfl⟩
                  go_wp2_with fail
                  go_roundw
                  case rel => exact ⟨i + 1, by omega, by go_num, by trivial, Lib.hid (HS.out HD.out.symm)⟩
                  case measure => simp [intOf]; omega
                · have HR := Lib.hid (HT.out (by rw [HD.out]; decide))
                  go_wp2_with fail
                  refine (HRi.out _).mono ?_; rintro e v ⟨rfl, rfl⟩
                  go_wp2_with fail
                  go_ret
                  exact ⟨ret_int (HPE.out.trans HR.out).symm, HBW.out⟩
            · obtain rfl : i = m := by omega
              by_cases hz : i = 0
              · have HR := Lib.hid (HBn.out hz)
                have hz2 : ((i : Int) == 0) = true := by rw [hz]; rfl
                go_wp2_with fail
                go_ret
                exact ⟨ret_int (HPE.out.trans HR.out).symm, HBW.out⟩
              · have hz2 : ((i : Int) == 0) = false := beq_eq_false_iff_ne.2 (by omega)
                have HBb := Lib.hid (HBf.out (by omega) HGi.out)
                go_wp2_with fail
                go_roundw
                case rel => exact ⟨k2 + 1, by omega, by go_num, HBr.out, Lib.hid (fun j hj => by
                  by_cases e : j = k2
                  · rw [e, HBk.out]; exact HBb.out
                  · exact HGo.out j (by omega))⟩
                case measure => simp [intOf]; omega
        · obtain rfl : k2 = k := by omega
          clear hb
          have HR := Lib.hid (HB70.out HGo.out)
          go_wp2_with fail
          go_ret
          exact ⟨ret_int (HPE.out.trans HR.out).symm, HBW.out⟩
end Go.Proofs.Ytjfpaelmcepidaa.PK
