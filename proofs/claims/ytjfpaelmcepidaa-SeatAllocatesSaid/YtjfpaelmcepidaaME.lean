/- The walks of the specification's isLast, count and Validate, at right programs. -/
import Derived.Test.YtjfpaelmcepidaaMA
namespace Go.Proofs.Ytjfpaelmcepidaa.PK
open Go.RowKit

theorem rLast_any (n : Int) (w : World) : Calls Try.prog 29 #[.int .i64 n] w fun e w' => e = .returned (.bool (isLastB n)) ∧ w = w' := by
  have HR : Hid (isLastB n = (decide (n = 24) || (decide (n = 26) || decide (n = 27)))) := Lib.hid (by
    unfold isLastB
    rw [Bool.eq_iff_iff]
    simp)
  generalize isLastB n = r at *
  by_cases h1 : n = 24
  · subst h1
    go_enter Try.func29, Try.ntmps29
    go_wp2_with fail
    go_ret
    exact ⟨ret_bool (by rw [HR.out]; rfl), rfl⟩
  · by_cases h2 : n = 26
    · subst h2
      go_enter Try.func29, Try.ntmps29
      go_wp2_with fail
      go_ret
      exact ⟨ret_bool (by rw [HR.out]; rfl), rfl⟩
    · by_cases h3 : n = 27
      · subst h3
        go_enter Try.func29, Try.ntmps29
        go_wp2_with fail
        go_ret
        exact ⟨ret_bool (by rw [HR.out]; rfl), rfl⟩
      · have hr : r = false := by rw [HR.out, decide_eq_false h1, decide_eq_false h2, decide_eq_false h3]; rfl
        subst hr
        go_enter Try.func29, Try.ntmps29
        go_wp2_with fail
        go_ret
        exact ⟨ret_bool (by simp [h1, h2, h3]), rfl⟩
set_option maxHeartbeats 1000000 in
theorem count_any (regs : Int) (ls : List (List Cd)) (bl : Option Addr) (cap : Nat) (w : World) (hin : BlkIn w bl ls) (hl : ls.length ≤ 400) (hm : ∀ k, k < ls.length → (atB ls k).length ≤ 1099511627776) :
    Calls Try.prog 27 #[.agg #[.int .i64 regs, .slice bl ls.length cap]] w fun e w' => e = .returned (.int .i64 (sumL ls)) ∧ Below w.heap.size w w' := by
  have HI := Lib.hid hin; have HM := Lib.hid hm
  have HS := Lib.hid (sumL_small hm)
  clear hin hm
  go_enter Try.func27, Try.ntmps27
  go_upto_region 1 with (fail)
  generalize hw0 : w.alloc _ = w0
  generalize hq : w.heap.size = q
  have hb0 : Below w.heap.size w w0 := by rw [← hw0]; exact (Below.refl _ _).alloc (Nat.le_refl _) _
  have h1 : w0.cell? ⟨q, 1, none⟩ = some (.slice bl ls.length cap) := by subst hw0 hq; simp [go_sem]
  have HH1 := Lib.hid h1; have HB0 := Lib.hid hb0
  clear hw0 hq h1 hb0
  go_wp2_with fail
  go_loopw [3, 4] (fun n i wr => ∃ k : Nat, k ≤ ls.length ∧ n = .int .i64 (sumL (ls.take k)) ∧ i = .int .i64 k ∧ Below w0.heap.size w0 wr) (fun _ i _ => ls.length - (intOf i).toNat)
  case atStart => exact ⟨0, Nat.zero_le _, by simp [sumL], rfl, Below.refl _ _⟩
  case round =>
    obtain ⟨k, hk, rfl, rfl, hb⟩ := hrel
    have HB := Lib.hid hb
    have h1 := keep HH1.out hb
    by_cases hlt : k < ls.length
    · obtain ⟨b, off, a, cp, rfl, hc, _⟩ := (HI.out.below HB0.out).below hb k hlt
      clear hb
      have hs1 := HS.out k (by omega)
      have hs3 := HM.out k hlt
      have HT := Lib.hid (sumL_take hlt)
      generalize hsk : sumL (ls.take k) = sk at *
      generalize hbl : (atB ls k).length = m at *
      clear hsk hbl
      go_wp2_with fail
      go_roundw
      case rel => exact ⟨k + 1, by omega, by rw [HT.out]; go_num, by go_num, HB.out⟩
      case measure => simp [intOf]; omega
    · obtain rfl : k = ls.length := by omega
      clear hb
      go_wp2_with fail
      go_ret
      exact ⟨ret_int (by rw [List.take_length]), HB0.out.trans (HB.out.mono HB0.out.size)⟩
theorem prog_parts {regs : Int} {ls : List (List Cd)} (h : progErr regs ls = 0) : ¬ tooBig regs ls ∧ (∀ k i, k < ls.length → i < (atB ls k).length → isCodeB (atC (atB ls k) i) regs ls.length = true) ∧ (∀ k, k < ls.length → 0 < (atB ls k).length ∧ ∀ i, i < (atB ls k).length → isLastB (atC (atB ls k) i).op = decide ((i : Int) = (atB ls k).length - 1)) := by
  unfold progErr at h
  split at h
  · cases h
  · rename_i h1
    split at h
    · cases h
    · rename_i h2
      split at h
      · cases h
      · rename_i h3
        refine ⟨h1, fun k i hk hi => ?_, fun k hk => ⟨?_, fun i hi => ?_⟩⟩
        · cases hc : isCodeB (atC (atB ls k) i) regs ls.length
          · exfalso
            apply h2
            refine anyB_true k hk ?_
            rw [List.any_eq_true]
            exact ⟨_, atC_mem hi, by rw [hc]; rfl⟩
          · rfl
        · rcases Nat.eq_zero_or_pos (atB ls k).length with h0 | h0
          · exact absurd (anyB_true (p := badL) k hk (badL_nil h0)) h3
          · exact h0
        · cases hd : decide (isLastB (atC (atB ls k) i).op = decide ((i : Int) = (atB ls k).length - 1))
          · exact absurd (anyB_true (p := badL) k hk (badL_true i hi (of_decide_eq_false hd))) h3
          · exact of_decide_eq_true hd
set_option maxRecDepth 100000 in
set_option maxHeartbeats 4000000 in
theorem rValidate20_ok (regs : Int) (ls : List (List Cd)) (bl : Option Addr) (cap : Nat) (w : World) (hin : BlkIn w bl ls) (h : progErr regs ls = 0) :
    Calls Try.prog 8 #[.agg #[.int .i64 regs, .slice bl ls.length cap]] w fun e w' => e = .returned (.int .i64 0) ∧ Below w.heap.size w w' := by
  obtain ⟨hbig, hcode, hlast⟩ := prog_parts h
  have hb2 : 0 ≤ regs ∧ regs ≤ 200 ∧ 1 ≤ ls.length ∧ ls.length ≤ 400 ∧ sumL ls ≤ 400 := by unfold tooBig at hbig; omega
  obtain ⟨hr0, hr1, hn0, hn1, hsum⟩ := hb2
  have hlen : ∀ k, k < ls.length → (atB ls k).length ≤ 400 := fun k hk => by
    have h1 := sumL_take hk
    have h2 : sumL (ls.take (k + 1)) ≤ sumL ls := by
      have e : ls = ls.take (k + 1) ++ ls.drop (k + 1) := (List.take_append_drop _ _).symm
      conv => rhs; rw [e]
      rw [sumL_app]; omega
    omega
  have HI := Lib.hid hin; have HCd := Lib.hid hcode; have HLa := Lib.hid hlast; have HLen := Lib.hid hlen
  have HCnt := Lib.hid (fun u (hu : BlkIn u bl ls) => count_any regs ls bl cap u hu hn1 (fun k hk => Nat.le_trans (hlen k hk) (by omega)))
  have HW := Lib.hid rwithin_any
  have HRc := Lib.hid (fun k i hk hi u => rCode_ok (hcode k i hk hi) (by omega) (by omega) u)
  have HRl := Lib.hid rLast_any
  clear hin hcode hlast h hbig hlen
  generalize sumL ls = sm at *
  go_enter Try.func8, Try.ntmps8
  go_upto_region 1 with (fail)
  generalize hw0 : w.alloc _ = w0
  generalize hq : w.heap.size = q
  have hb0 : Below w.heap.size w w0 := by rw [← hw0]; exact (Below.refl _ _).alloc (Nat.le_refl _) _
  have p0 : w0.cell? ⟨q, 0, none⟩ = some (.int .i64 regs) := by subst hw0 hq; simp [go_sem]
  have p1 : w0.cell? ⟨q, 1, none⟩ = some (.slice bl ls.length cap) := by subst hw0 hq; simp [go_sem]
  have HP0 := Lib.hid p0; have HP1 := Lib.hid p1; have HB0 := Lib.hid hb0
  have HI0 := Lib.hid (HI.out.below hb0)
  clear hw0 hq hb0 HI
  generalize hnn : ls.length = n at *
  have HN := Lib.hid hnn; clear hnn
  go_wp2_with fail
  refine (HW.out _ _ _ _).mono ?_; rintro e v ⟨rfl, rfl⟩
  have d1 : (decide ((0 : Int) ≤ regs) && decide (regs ≤ 200)) = true := by simp; omega
  rw [d1]
  go_wp2_with fail
  refine (HW.out _ _ _ _).mono ?_; rintro e v ⟨rfl, rfl⟩
  have d2 : (decide ((1 : Int) ≤ (n : Int)) && decide ((n : Int) ≤ 400)) = true := by simp; omega
  rw [d2]
  go_wp2_with fail
  refine (HCnt.out _ HI0.out).mono ?_; rintro e w1 ⟨rfl, hb1⟩
  have HB1 := Lib.hid (HB0.out.trans (hb1.mono HB0.out.size))
  have HP0 := Lib.hid (keep p0 hb1); have HP1 := Lib.hid (keep p1 hb1)
  have HI1 := Lib.hid (HI0.out.below hb1)
  clear hb1 p0 p1 HI0 HCnt d1 d2
  go_wp2_with fail
  go_loopw [3] (fun i wr => ∃ k : Nat, k ≤ n ∧ i = .int .i64 k ∧ Below w1.heap.size w1 wr) (fun i _ => n - (intOf i).toNat)
  case atStart => exact ⟨0, Nat.zero_le _, rfl, Below.refl _ _⟩
  case round =>
    obtain ⟨k, hk, rfl, hb⟩ := hrel
    have HB := Lib.hid hb
    have p0 := keep HP0.out hb; have p1 := keep HP1.out hb
    by_cases hlt : k < n
    · have hki : (k : Int) < (n : Int) := by omega
      have hk0 : (0 : Int) ≤ (k : Int) := by omega
      have hkl : k < ls.length := by rw [HN.out]; exact hlt
      obtain ⟨tb, to, ba, cp, rfl, hck, hcd⟩ := HI1.out.below hb k hkl
      have HRk := Lib.hid (HRc.out k)
      have hm4 := HLen.out k hlt
      have HCs := Lib.hid hcd
      have HCk := Lib.hid hck
      clear hb hcd hck
      generalize hbk : atB ls k = bk at *
      have HBk := Lib.hid hbk; clear hbk
      generalize hml : bk.length = m at *
      have HMl := Lib.hid hml; clear hml
      go_wp2_with fail
      go_loopw [4] (fun j wr' => ∃ i : Nat, i ≤ m ∧ j = .int .i64 i ∧ Below wr.heap.size wr wr') (fun j _ => m - (intOf j).toNat)
      case atStart => exact ⟨0, Nat.zero_le _, rfl, Below.refl _ _⟩
      case round =>
        obtain ⟨i, hi, rfl, hb⟩ := hrel
        have HB2 := Lib.hid (HB.out.trans (hb.mono HB.out.size))
        have p0 := keep HP0.out HB2.out; have p1 := keep HP1.out HB2.out
        have hck := keep HCk.out hb
        by_cases hil : i < m
        · have hii : (i : Int) < (m : Int) := by omega
          have hi0 : (0 : Int) ≤ (i : Int) := by omega
          obtain ⟨bb, off, rfl, hcx⟩ := HCs.out.below hb i (by rw [HMl.out]; exact hil)
          have HRi := Lib.hid (HRk.out i hlt hil)
          generalize atC bk i = x at *
          obtain ⟨x0, x1, x2, x3, x4, x5⟩ := x
          obtain ⟨c0, c1, c2, c3, c4, c5⟩ := hcx
          simp only at c0 c1 c2 c3 c4 c5
          have HRi : Hid (∀ u : World, Calls Try.prog 28 #[.agg #[.int .i64 x0, .int .i64 x1, .int .i64 x2, .int .i64 x3, .int .u32 x4, .int .i64 x5], .int .i64 regs, .int .i64 n] u fun e w' => e = .returned (.bool true) ∧ Below u.heap.size u w') := HRi
          go_upto_region 9 with (fail)
          go_region_held3 (fun w' => w'.cell? ⟨q, 0, none⟩ = some (.int .i64 regs) ∧ w'.cell? ⟨q, 1, none⟩ = some (.slice (some ⟨tb, to, none⟩) n cap) ∧ w'.cell? ⟨tb, to + k, none⟩ = some (.slice (some ⟨bb, off, none⟩) m cp) ∧ w'.cell? ⟨bb, off + i * 6, none⟩ = some (.int .i64 x0) ∧ w'.cell? ⟨bb, off + i * 6 + 1, none⟩ = some (.int .i64 x1) ∧ w'.cell? ⟨bb, off + i * 6 + 2, none⟩ = some (.int .i64 x2) ∧ w'.cell? ⟨bb, off + i * 6 + 3, none⟩ = some (.int .i64 x3) ∧ w'.cell? ⟨bb, off + i * 6 + 4, none⟩ = some (.int .u32 x4) ∧ w'.cell? ⟨bb, off + i * 6 + 5, none⟩ = some (.int .i64 x5))
            (first | exact ⟨p0, p1, hck, c0, c1, c2, c3, c4, c5⟩ | exact ⟨keep p0 (by assumption), keep p1 (by assumption), keep hck (by assumption), keep c0 (by assumption), keep c1 (by assumption), keep c2 (by assumption), keep c3 (by assumption), keep c4 (by assumption), keep c5 (by assumption)⟩)
            (first | (go_at_call 28; refine (HRi.out _).mono ?_; rintro e w5 ⟨rfl, hb5⟩; have hb5 := (by first | exact below_of_drew hb5 | exact hb5)))
          have HB5 := Lib.hid (hb.trans (hb5.mono hb.size))
          clear hb hb5 c0 c1 c2 c3 c4 c5
          go_wp2_with fail
          go_roundw
          case rel => exact ⟨i + 1, by omega, by go_num, HB5.out⟩
          case measure => simp [intOf]; omega
        · obtain rfl : i = m := by omega
          clear hb
          go_wp2_with fail
          go_roundw
          case rel => exact ⟨k + 1, by omega, by go_num, HB2.out⟩
          case measure => simp [intOf]; omega
    · obtain rfl : k = n := by omega
      clear hb
      go_wp2_with fail
      go_loopw [5] (fun i wr2 => ∃ k2 : Nat, k2 ≤ k ∧ i = .int .i64 k2 ∧ Below wr.heap.size wr wr2) (fun i _ => k - (intOf i).toNat)
      case atStart => exact ⟨0, Nat.zero_le _, rfl, Below.refl _ _⟩
      case round =>
        obtain ⟨k2, hk2, rfl, hb⟩ := hrel
        have HB2 := Lib.hid (HB.out.trans (hb.mono HB.out.size))
        have HBr := Lib.hid hb
        have p0 := keep HP0.out HB2.out; have p1 := keep HP1.out HB2.out
        by_cases hlt2 : k2 < k
        · have hki : (k2 : Int) < (k : Int) := by omega
          have hkl : k2 < ls.length := by rw [HN.out]; exact hlt2
          obtain ⟨tb, to, ba, cp, rfl, hck, hcd⟩ := HI1.out.below HB2.out k2 hkl
          obtain ⟨hne, hlas⟩ := HLa.out k2 hlt2
          have hm4 := HLen.out k2 hlt2
          have HCs := Lib.hid hcd; have HLs := Lib.hid hlas
          clear hb hcd hlas
          generalize hbk : atB ls k2 = bk at *
          clear hbk
          generalize hml : bk.length = m at *
          have HMl := Lib.hid hml; clear hml
          go_wp2_with fail
          clear hck p0 p1
          go_loopw [7] (fun j wr' => ∃ i : Nat, i ≤ m ∧ j = .int .i64 i ∧ wr = wr') (fun j _ => m - (intOf j).toNat)
          case atStart => exact ⟨0, Nat.zero_le _, rfl, by trivial⟩
          case round =>
            obtain ⟨i, hi, rfl, rfl⟩ := hrel
            by_cases hil : i < m
            · have hii : (i : Int) < (m : Int) := by omega
              obtain ⟨bb, off, rfl, hcx⟩ := HCs.out i (by rw [HMl.out]; exact hil)
              have c0 := hcx.c0
              have HRi := Lib.hid (HRl.out (atC bk i).op)
              rw [HLs.out i hil] at HRi
              generalize (atC bk i).op = x0 at *
              clear hcx
              by_cases hlst : (i : Int) = (m : Int) - 1
              · rw [decide_eq_true hlst] at HRi
                have HEq := Lib.hid hlst
                have heq : ((i : Int) == (m : Int) - 1) = true := by rw [beq_iff_eq]; exact hlst
                clear hlst
                go_wp2_with fail
                refine (HRi.out _).mono ?_; rintro e v ⟨rfl, rfl⟩
                go_wp2_with fail
                go_roundw
                case rel => exact ⟨i + 1, by omega, by go_num, by trivial⟩
                case measure => simp [intOf]; omega
              · rw [decide_eq_false hlst] at HRi
                have heq : ((i : Int) == (m : Int) - 1) = false := by rw [beq_eq_false_iff_ne]; exact hlst
                go_wp2_with fail
                refine (HRi.out _).mono ?_; rintro e v ⟨rfl, rfl⟩
                go_wp2_with fail
                go_roundw
                case rel => exact ⟨i + 1, by omega, by go_num, by trivial⟩
                case measure => simp [intOf]; omega
            · obtain rfl : i = m := by omega
              go_wp2_with fail
              go_roundw
              case rel => exact ⟨k2 + 1, by omega, by go_num, HBr.out⟩
              case measure => simp [intOf]; omega
        · obtain rfl : k2 = k := by omega
          clear hb
          go_wp2_with fail
          go_ret
          exact ⟨rfl, HB1.out.trans (HB2.out.mono HB1.out.size)⟩
end Go.Proofs.Ytjfpaelmcepidaa.PK
