/- The law PickExecutes. -/
import Derived.Test.YtoldgjieplblpaaGreatP2
import Derived.Test.YtoldgjieplblpaaGreatQB
import Derived.Test.YtoldgjieplblpaaGreatNG
namespace Go.Proofs.YtoldgjieplblpaaGreat.PK
open Go.RowKit

/-- A row of bytes that a run hands back, or nil. -/
def RowOf (mo : Option (List Int)) (u : World) (va : Value) (w' : World) : Prop :=
  match mo with
  | none => va = .slice none 0 0
  | some l => ∃ g cap, va = .slice (some ⟨g, 0, none⟩) l.length cap ∧ w'.ownsRow u.heap.size 5 1 (.slice (some ⟨g, 0, none⟩) l.length cap) l.length (encB l)
def Out (mo : Option (List Int)) (en k x : Int) (u : World) (e : Ending) (w' : World) : Prop :=
  (∃ va, e = .returned (.tuple #[va, .int .i64 en, .int .i64 k, .int .i64 x]) ∧ RowOf mo u va w') ∧ Below u.heap.size u w'
def strOf : Option (List Int) → ByteArray
  | none => ByteArray.empty
  | some l => strOfNums l
theorem RowOf.conv {mo : Option (List Int)} {u w' : World} {va : Value} (h : RowOf mo u va w') : (convert 25 9 va).run Tryz.prog w' = .ok (.string (strOf mo)) w' := by
  cases mo with
  | none => obtain rfl : va = .slice none 0 0 := h; exact conv_none w'
  | some l => obtain ⟨g, cap, rfl, ho⟩ := h; exact conv_mem cap (bin_owns ho)
theorem RowOf.below {mo : Option (List Int)} {u w' w2 : World} {va : Value} (h : RowOf mo u va w') (hb : Below w'.heap.size w' w2) : RowOf mo u va w2 := by
  cases mo with
  | none => exact h
  | some l => obtain ⟨g, cap, rfl, ho⟩ := h; exact ⟨g, cap, rfl, owns_below ho hb⟩
set_option maxRecDepth 100000 in
set_option maxHeartbeats 8000000 in
theorem executes_of (mo : Option (List Int)) (en kk x : Int) (regs : Int) (ls : List (List Cd)) (bl : Option Addr) (cap : Nat) (ma : Option Addr) (mcap : Nat) (mem : List Int) (most : Int) (w : World)
    (hin : BlkIn w bl ls) (hl : ls.length ≤ 9223372036854775807) (hm : ∀ k, k < ls.length → (atB ls k).length ≤ 9223372036854775807) (hmem : BIn w ma mem) (hnil : ma = none → mem = [] ∧ mcap = 0)
    (hP : ∀ u ad c, mem.length ≤ 40000 → ¬ (2000 < most ∧ most ≤ 200000) → BlkIn u bl ls → BIn u (some ad) mem → Calls Tryz.prog 12 #[.agg #[.int .i64 regs, .slice bl ls.length cap], .slice (some ad) mem.length c, .int .i64 most] u (Out mo en kk x u))
    (hR : ∀ u, mem.length ≤ 40000 → ¬ (2000 < most ∧ most ≤ 200000) → BlkIn u bl ls → BIn u ma mem → Calls Tryz.prog 13 #[.agg #[.int .i64 regs, .slice bl ls.length cap], .slice ma mem.length mcap, .int .i64 most] u (Out mo en kk x u)) :
    Calls Tryz.prog 3 #[.agg #[.int .i64 regs, .slice bl ls.length cap], .slice ma mem.length mcap, .int .i64 most] w fun e w' => e = .returned (.bool true) ∧ Below w.heap.size w w' := by
  have HL := Lib.hid (fun u (h : BlkIn u bl ls) => longP_few regs ls bl cap u h hl hm)
  have HK := Lib.hid known_any
  have HI2 : Hid (∀ W, Below w.heap.size w W → BlkIn W bl ls) := Lib.hid fun W h => hin.below h
  have HM2 : Hid (∀ W, Below w.heap.size w W → BIn W ma mem) := Lib.hid fun W h => hmem.below h
  have HPx := Lib.hid hP; have HRx := Lib.hid hR
  have HNil := Lib.hid hnil
  clear hin hl hm hP hR hmem hnil
  generalize hlo : longP ls = lo at *
  clear hlo
  generalize ls.length = p at *
  go_enter Tryz.func3, Tryz.ntmps3
  go_upto_region 1 with (fail)
  generalize hw0 : w.alloc _ = w0
  generalize hq : w.heap.size = q at *
  have hb0 : Below q w w0 := by rw [← hw0, ← hq]; exact (Below.refl _ _).alloc (Nat.le_refl _) _
  have h0 : w0.cell? ⟨q, 0, none⟩ = some (.int .i64 regs) := by subst hw0 hq; simp [go_sem]
  have h1 : w0.cell? ⟨q, 1, none⟩ = some (.slice bl p cap) := by subst hw0 hq; simp [go_sem]
  have HB0 := Lib.hid hb0; have HQ := Lib.hid hq
  have HZ : Hid (q ≤ w0.heap.size) := Lib.hid (by rw [← hq]; exact hb0.size)
  clear hw0 hq hb0
  have hmi : (0 : Int) ≤ (mem.length : Int) := by omega
  go_wp2_with fail
  refine (HL.out _ (HI2.out _ HB0.out)).mono ?_; rintro e w1 ⟨rfl, hb1⟩
  have HB1 := Lib.hid (HB0.out.trans (hb1.mono HZ.out)); have HZ1 : Hid (q ≤ w1.heap.size) := Lib.hid (Nat.le_trans HZ.out hb1.size)
  have HP0 := Lib.hid (keep h0 hb1); have HP1 := Lib.hid (keep h1 hb1)
  clear h0 h1 hb1 HL HB0 HZ
  cases lo
  rotate_left
  · skip
    go_wp2_with fail
    refine (HK.out _).mono ?_; rintro e w2 ⟨rfl, hb2⟩
    go_wp2_with fail
    go_ret
    exact ⟨rfl, by rw [HQ.out]; exact HB1.out.trans (hb2.mono HZ1.out)⟩
  by_cases hn4 : mem.length ≤ 40000
  rotate_left
  · have hn5 : (40000 : Int) < (mem.length : Int) := by omega
    go_wp2_with fail
    refine (HK.out _).mono ?_; rintro e w2 ⟨rfl, hb2⟩
    go_wp2_with fail
    go_ret
    exact ⟨rfl, by rw [HQ.out]; exact HB1.out.trans (hb2.mono HZ1.out)⟩
  by_cases hm2 : 2000 < most ∧ most ≤ 200000
  · obtain ⟨hm3, hm4⟩ := hm2
    go_wp2_with fail
    refine (HK.out _).mono ?_; rintro e w2 ⟨rfl, hb2⟩
    go_wp2_with fail
    go_ret
    exact ⟨rfl, by rw [HQ.out]; exact HB1.out.trans (hb2.mono HZ1.out)⟩
  have hn5 : ¬ (40000 : Int) < (mem.length : Int) := by omega
  have HP2 := Lib.hid (fun u ad c => HPx.out u ad c hn4 hm2)
  have HR2 := Lib.hid (fun u => HRx.out u hn4 hm2)
  obtain ⟨n, hn⟩ : ∃ n, mem.length = n := ⟨_, rfl⟩
  have HN := Lib.hid hn
  rw [hn] at HP2 HR2 hn5 hn4
  have HM6 := Lib.hid hm2
  clear HPx HRx hm2
  by_cases h2k : 2000 < most
  · have h200 : ¬ most ≤ 200000 := by have := HM6.out; omega
    rw [hn]
    clear hn
    go_upto_region 3 with (fail)
    go_cut [7] from 33 to 36 (fun v wx => ∃ g c, v = .slice (some ⟨g, 0, none⟩) n c ∧ wx.ownsRow w1.heap.size 5 1 (.slice (some ⟨g, 0, none⟩) n c) n (encB mem) ∧ Below w1.heap.size w1 wx)
    case first =>
      obtain ⟨i0, hi, ip0, ip1, ip2⟩ := info_parts infoU8
      have HE1 := Lib.hid (owns_empty w1 w1.heap.size (Nat.le_refl _) 5)
      have HBE := Lib.hid ((Below.refl w1.heap.size w1).alloc (Nat.le_refl _) (.cells #[] 5))
      cases ma with
      | none =>
        obtain ⟨rfl, rfl⟩ := HNil.out rfl
        obtain rfl : n = 0 := HN.out.symm
        go_wp2_with fail
        go_meet
        case rel => exact ⟨w1.heap.size, 0, rfl, HE1.out, HBE.out⟩
      | some ad =>
        have HMw := Lib.hid (fun j u => news_src ((HM2.out w1 HB1.out).below HBE.out) j u)
        have HEn := Lib.hid (encB_len mem)
        have HS63 : Hid (0 + n ≤ maxLen) := Lib.hid (by unfold maxLen; omega)
        have HSb : Hid ((0 + n) * 1 ≤ 140737488355328) := Lib.hid (by omega)
        have HNl : Hid ((encB mem).length = n * 1) := Lib.hid (by rw [HEn.out, Nat.mul_one, HN.out])
        go_wp2_with (first | (at_builtin; refine wpList_append_own_at _ rfl _ _ 25 rfl w1.heap.size 5 i0 (.int .u8 0) 1 1 Tryz.underlying25 hi ip0 ip1 ip2 rfl (by decide) _ _ _ rfl HE1.out ad n mcap (encB mem) rfl HNl.out HMw.out (one_b _) HS63.out HSb.out HBE.out.size ?_; intro v9 w9 hown9 hgrow9 hnil9 hat9; have HN9 : Hid (¬ v9 = .slice none 0 0) := Lib.hid (fun e => by have := (hnil9.1 e).1; cases this); have HB9 := Lib.hid (HBE.out.grown hgrow9 HBE.out.size (fun k hk => Nat.le_of_eq (Option.some.inj hk))); have HO9 := Lib.hid hown9; clear hown9 hgrow9 hat9 hnil9))
        rw [Nat.zero_add, List.nil_append] at HO9
        obtain ⟨g, mc, rfl, hBg, hgs⟩ := owns_some HO9.out HN9.out
        go_wp2_with fail
        go_meet
        case rel => exact ⟨g, mc, rfl, HO9.out, HB9.out⟩
    case rest =>
      obtain ⟨g, c, rfl, hown, hb2⟩ := hcut
      have HO := Lib.hid hown
      have HB2 := Lib.hid (HB1.out.trans (hb2.mono HZ1.out))
      have HZ2 : Hid (q ≤ wc.heap.size) := Lib.hid (Nat.le_trans HZ1.out hb2.size)
      have p0 := keep HP0.out hb2; have p1 := keep HP1.out hb2
      have hbi := bin_owns hown
      clear hb2 hown HP0 HP1
      go_wp2_with fail
      refine (HP2.out wc ⟨g, 0, none⟩ c (HI2.out _ HB2.out) hbi).mono ?_; rintro e w3 ⟨⟨va, rfl, hrow⟩, hb3⟩
      have HB3 := Lib.hid (HB2.out.trans (hb3.mono HZ2.out)); have HRow := Lib.hid hrow
      have p0 := keep p0 hb3; have p1 := keep p1 hb3
      have HX3 := Lib.hid hb3
      clear hb3 hbi hrow
      go_wp2_with fail
      refine (HR2.out w3 (HI2.out _ HB3.out) (HM2.out _ HB3.out)).mono ?_; rintro e w4 ⟨⟨vb, rfl, hrb⟩, hb4⟩
      have cva := (HRow.out.below hb4).conv
      have cvb := hrb.conv
      have HX4 := Lib.hid (HX3.out.trans (hb4.mono HX3.out.size))
      have HR4 := Lib.hid (HRow.out.below hb4)
      clear hb4 hrb p0 p1 HRow HP2 HR2 HI2 HB3 HX3 HB1 HZ1
      generalize strOf mo = S at *
      cases mo with
      | none =>
        obtain rfl : va = .slice none 0 0 := HR4.out
        go_wp2_with fail
        go_loopw [16] (fun i wr => i = .int .i64 0 ∧ Below wc.heap.size wc wr) (fun _ _ => 0)
        case atStart => exact ⟨rfl, HX4.out⟩
        case round =>
          obtain ⟨rfl, hbr⟩ := hrel
          have HBr := Lib.hid hbr
          clear hbr HX4 cva cvb
          have cvo := conv_mem c (bin_owns (l := mem) (owns_below HO.out HBr.out))
          have cvm := conv_arg (HM2.out _ (HB2.out.trans (Below.mono HBr.out HZ2.out))) HNil.out
          rw [HN.out] at cvo cvm
          clear HO HM2 HNil
          generalize strOfNums mem = SM at *
          go_wp2_with fail
          refine (HK.out _).mono ?_; rintro e w7 ⟨rfl, hb7⟩
          have HBf := Lib.hid ((HB2.out.trans (Below.mono HBr.out HZ2.out)).trans (hb7.mono (Nat.le_trans HZ2.out (Below.size HBr.out))))
          clear hb7 cvo cvm
          go_wp2_with fail
          go_ret
          exact ⟨rfl, by rw [HQ.out]; exact HBf.out⟩
      | some l =>
        obtain ⟨ga, ca, rfl, hoa⟩ := HR4.out
        have HA4 := Lib.hid hoa
        clear hoa HR4
        go_wp2_with fail
        go_loopw [16] (fun i wr => ∃ (j : Nat) (xs : List Int), i = .int .i64 j ∧ j ≤ l.length ∧ xs.length = l.length ∧ wr.ownsRow wc.heap.size 5 1 (.slice (some ⟨ga, 0, none⟩) l.length ca) l.length (encB xs) ∧ Below wc.heap.size wc wr) (fun i _ => l.length - (intOf i).toNat)
        case atStart => exact ⟨0, l, rfl, Nat.zero_le _, rfl, HA4.out, HX4.out⟩
        case round =>
          obtain ⟨j, xs, rfl, hj, hxl, ho, hbr⟩ := hrel
          have HBr := Lib.hid hbr; have HO2 := Lib.hid ho
          clear hbr HX4 cva cvb
          by_cases hlt : j < l.length
          rotate_left
          · have hlt2 : ¬ (j : Int) < (l.length : Int) := by omega
            clear ho HO2
            have cvo := conv_mem c (bin_owns (l := mem) (owns_below HO.out HBr.out))
            have cvm := conv_arg (HM2.out _ (HB2.out.trans (Below.mono HBr.out HZ2.out))) HNil.out
            rw [HN.out] at cvo cvm
            clear HO HM2 HNil
            generalize strOfNums mem = SM at *
            go_wp2_with fail
            refine (HK.out _).mono ?_; rintro e w7 ⟨rfl, hb7⟩
            have HBf := Lib.hid ((HB2.out.trans (Below.mono HBr.out HZ2.out)).trans (hb7.mono (Nat.le_trans HZ2.out (Below.size HBr.out))))
            clear hb7 cvo cvm
            go_wp2_with fail
            go_ret
            exact ⟨rfl, by rw [HQ.out]; exact HBf.out⟩
          have hji : (j : Int) < (l.length : Int) := by omega
          by_cases h64 : j < 64
          rotate_left
          · have h642 : ¬ (j : Int) < 64 := by omega
            clear ho HO2
            have cvo := conv_mem c (bin_owns (l := mem) (owns_below HO.out HBr.out))
            have cvm := conv_arg (HM2.out _ (HB2.out.trans (Below.mono HBr.out HZ2.out))) HNil.out
            rw [HN.out] at cvo cvm
            clear HO HM2 HNil
            generalize strOfNums mem = SM at *
            go_wp2_with fail
            refine (HK.out _).mono ?_; rintro e w7 ⟨rfl, hb7⟩
            have HBf := Lib.hid ((HB2.out.trans (Below.mono HBr.out HZ2.out)).trans (hb7.mono (Nat.le_trans HZ2.out (Below.size HBr.out))))
            clear hb7 cvo cvm
            go_wp2_with fail
            go_ret
            exact ⟨rfl, by rw [HQ.out]; exact HBf.out⟩
          have h643 : (j : Int) < 64 := by omega
          have hga := (owns_block ho (g := ga) rfl).1
          obtain ⟨g', c', ev, _, _, _, _, hcs, hfz⟩ := owns_cells ho (by omega)
          simp only [Value.slice.injEq, Option.some.injEq, Addr.mk.injEq, and_true, true_and] at ev
          obtain ⟨rfl, rfl⟩ := ev
          have hcell := hcs j _ (encB_get (by omega))
          have hfr := hfz j
          clear ho hcs hfz
          generalize xs.getD j 0 = old at *
          go_wp2_with fail
          go_roundw
          case rel => exact ⟨j + 1, xs.set j ((old + 1) % 256), by go_num, by omega, by rw [List.length_set]; exact hxl, by rw [encB_set]; exact owns_set HO2.out _ _, HBr.out.setCell (p := ⟨_, j, none⟩) hga _⟩
          case measure => simp [intOf]; omega
  · skip
    rw [hn]
    clear hn
    go_upto_region 3 with (fail)
    go_cut [7] from 33 to 36 (fun v wx => ∃ g c, v = .slice (some ⟨g, 0, none⟩) n c ∧ wx.ownsRow w1.heap.size 5 1 (.slice (some ⟨g, 0, none⟩) n c) n (encB mem) ∧ Below w1.heap.size w1 wx)
    case first =>
      obtain ⟨i0, hi, ip0, ip1, ip2⟩ := info_parts infoU8
      have HE1 := Lib.hid (owns_empty w1 w1.heap.size (Nat.le_refl _) 5)
      have HBE := Lib.hid ((Below.refl w1.heap.size w1).alloc (Nat.le_refl _) (.cells #[] 5))
      cases ma with
      | none =>
        obtain ⟨rfl, rfl⟩ := HNil.out rfl
        obtain rfl : n = 0 := HN.out.symm
        go_wp2_with fail
        go_meet
        case rel => exact ⟨w1.heap.size, 0, rfl, HE1.out, HBE.out⟩
      | some ad =>
        have HMw := Lib.hid (fun j u => news_src ((HM2.out w1 HB1.out).below HBE.out) j u)
        have HEn := Lib.hid (encB_len mem)
        have HS63 : Hid (0 + n ≤ maxLen) := Lib.hid (by unfold maxLen; omega)
        have HSb : Hid ((0 + n) * 1 ≤ 140737488355328) := Lib.hid (by omega)
        have HNl : Hid ((encB mem).length = n * 1) := Lib.hid (by rw [HEn.out, Nat.mul_one, HN.out])
        go_wp2_with (first | (at_builtin; refine wpList_append_own_at _ rfl _ _ 25 rfl w1.heap.size 5 i0 (.int .u8 0) 1 1 Tryz.underlying25 hi ip0 ip1 ip2 rfl (by decide) _ _ _ rfl HE1.out ad n mcap (encB mem) rfl HNl.out HMw.out (one_b _) HS63.out HSb.out HBE.out.size ?_; intro v9 w9 hown9 hgrow9 hnil9 hat9; have HN9 : Hid (¬ v9 = .slice none 0 0) := Lib.hid (fun e => by have := (hnil9.1 e).1; cases this); have HB9 := Lib.hid (HBE.out.grown hgrow9 HBE.out.size (fun k hk => Nat.le_of_eq (Option.some.inj hk))); have HO9 := Lib.hid hown9; clear hown9 hgrow9 hat9 hnil9))
        rw [Nat.zero_add, List.nil_append] at HO9
        obtain ⟨g, mc, rfl, hBg, hgs⟩ := owns_some HO9.out HN9.out
        go_wp2_with fail
        go_meet
        case rel => exact ⟨g, mc, rfl, HO9.out, HB9.out⟩
    case rest =>
      obtain ⟨g, c, rfl, hown, hb2⟩ := hcut
      have HO := Lib.hid hown
      have HB2 := Lib.hid (HB1.out.trans (hb2.mono HZ1.out))
      have HZ2 : Hid (q ≤ wc.heap.size) := Lib.hid (Nat.le_trans HZ1.out hb2.size)
      have p0 := keep HP0.out hb2; have p1 := keep HP1.out hb2
      have hbi := bin_owns hown
      clear hb2 hown HP0 HP1
      go_wp2_with fail
      refine (HP2.out wc ⟨g, 0, none⟩ c (HI2.out _ HB2.out) hbi).mono ?_; rintro e w3 ⟨⟨va, rfl, hrow⟩, hb3⟩
      have HB3 := Lib.hid (HB2.out.trans (hb3.mono HZ2.out)); have HRow := Lib.hid hrow
      have p0 := keep p0 hb3; have p1 := keep p1 hb3
      have HX3 := Lib.hid hb3
      clear hb3 hbi hrow
      go_wp2_with fail
      refine (HR2.out w3 (HI2.out _ HB3.out) (HM2.out _ HB3.out)).mono ?_; rintro e w4 ⟨⟨vb, rfl, hrb⟩, hb4⟩
      have cva := (HRow.out.below hb4).conv
      have cvb := hrb.conv
      have HX4 := Lib.hid (HX3.out.trans (hb4.mono HX3.out.size))
      have HR4 := Lib.hid (HRow.out.below hb4)
      clear hb4 hrb p0 p1 HRow HP2 HR2 HI2 HB3 HX3 HB1 HZ1
      generalize strOf mo = S at *
      cases mo with
      | none =>
        obtain rfl : va = .slice none 0 0 := HR4.out
        go_wp2_with fail
        go_loopw [16] (fun i wr => i = .int .i64 0 ∧ Below wc.heap.size wc wr) (fun _ _ => 0)
        case atStart => exact ⟨rfl, HX4.out⟩
        case round =>
          obtain ⟨rfl, hbr⟩ := hrel
          have HBr := Lib.hid hbr
          clear hbr HX4 cva cvb
          have cvo := conv_mem c (bin_owns (l := mem) (owns_below HO.out HBr.out))
          have cvm := conv_arg (HM2.out _ (HB2.out.trans (Below.mono HBr.out HZ2.out))) HNil.out
          rw [HN.out] at cvo cvm
          clear HO HM2 HNil
          generalize strOfNums mem = SM at *
          go_wp2_with fail
          refine (HK.out _).mono ?_; rintro e w7 ⟨rfl, hb7⟩
          have HBf := Lib.hid ((HB2.out.trans (Below.mono HBr.out HZ2.out)).trans (hb7.mono (Nat.le_trans HZ2.out (Below.size HBr.out))))
          clear hb7 cvo cvm
          go_wp2_with fail
          go_ret
          exact ⟨rfl, by rw [HQ.out]; exact HBf.out⟩
      | some l =>
        obtain ⟨ga, ca, rfl, hoa⟩ := HR4.out
        have HA4 := Lib.hid hoa
        clear hoa HR4
        go_wp2_with fail
        go_loopw [16] (fun i wr => ∃ (j : Nat) (xs : List Int), i = .int .i64 j ∧ j ≤ l.length ∧ xs.length = l.length ∧ wr.ownsRow wc.heap.size 5 1 (.slice (some ⟨ga, 0, none⟩) l.length ca) l.length (encB xs) ∧ Below wc.heap.size wc wr) (fun i _ => l.length - (intOf i).toNat)
        case atStart => exact ⟨0, l, rfl, Nat.zero_le _, rfl, HA4.out, HX4.out⟩
        case round =>
          obtain ⟨j, xs, rfl, hj, hxl, ho, hbr⟩ := hrel
          have HBr := Lib.hid hbr; have HO2 := Lib.hid ho
          clear hbr HX4 cva cvb
          by_cases hlt : j < l.length
          rotate_left
          · have hlt2 : ¬ (j : Int) < (l.length : Int) := by omega
            clear ho HO2
            have cvo := conv_mem c (bin_owns (l := mem) (owns_below HO.out HBr.out))
            have cvm := conv_arg (HM2.out _ (HB2.out.trans (Below.mono HBr.out HZ2.out))) HNil.out
            rw [HN.out] at cvo cvm
            clear HO HM2 HNil
            generalize strOfNums mem = SM at *
            go_wp2_with fail
            refine (HK.out _).mono ?_; rintro e w7 ⟨rfl, hb7⟩
            have HBf := Lib.hid ((HB2.out.trans (Below.mono HBr.out HZ2.out)).trans (hb7.mono (Nat.le_trans HZ2.out (Below.size HBr.out))))
            clear hb7 cvo cvm
            go_wp2_with fail
            go_ret
            exact ⟨rfl, by rw [HQ.out]; exact HBf.out⟩
          have hji : (j : Int) < (l.length : Int) := by omega
          by_cases h64 : j < 64
          rotate_left
          · have h642 : ¬ (j : Int) < 64 := by omega
            clear ho HO2
            have cvo := conv_mem c (bin_owns (l := mem) (owns_below HO.out HBr.out))
            have cvm := conv_arg (HM2.out _ (HB2.out.trans (Below.mono HBr.out HZ2.out))) HNil.out
            rw [HN.out] at cvo cvm
            clear HO HM2 HNil
            generalize strOfNums mem = SM at *
            go_wp2_with fail
            refine (HK.out _).mono ?_; rintro e w7 ⟨rfl, hb7⟩
            have HBf := Lib.hid ((HB2.out.trans (Below.mono HBr.out HZ2.out)).trans (hb7.mono (Nat.le_trans HZ2.out (Below.size HBr.out))))
            clear hb7 cvo cvm
            go_wp2_with fail
            go_ret
            exact ⟨rfl, by rw [HQ.out]; exact HBf.out⟩
          have h643 : (j : Int) < 64 := by omega
          have hga := (owns_block ho (g := ga) rfl).1
          obtain ⟨g', c', ev, _, _, _, _, hcs, hfz⟩ := owns_cells ho (by omega)
          simp only [Value.slice.injEq, Option.some.injEq, Addr.mk.injEq, and_true, true_and] at ev
          obtain ⟨rfl, rfl⟩ := ev
          have hcell := hcs j _ (encB_get (by omega))
          have hfr := hfz j
          clear ho hcs hfz
          generalize xs.getD j 0 = old at *
          go_wp2_with fail
          go_roundw
          case rel => exact ⟨j + 1, xs.set j ((old + 1) % 256), by go_num, by omega, by rw [List.length_set]; exact hxl, by rw [encB_set]; exact owns_set HO2.out _ _, HBr.out.setCell (p := ⟨_, j, none⟩) hga _⟩
          case measure => simp [intOf]; omega
  
set_option maxHeartbeats 2000000 in
theorem pickExecutes_any (regs : Int) (ls : List (List Cd)) (bl : Option Addr) (cap : Nat) (ma : Option Addr) (mcap : Nat) (mem : List Int) (most : Int) (w : World)
    (hin : BlkIn w bl ls) (hl : ls.length ≤ 9223372036854775807) (hm : ∀ k, k < ls.length → (atB ls k).length ≤ 9223372036854775807) (him : ∀ k i, k < ls.length → i < (atB ls k).length → (atC (atB ls k) i).im < 4294967296) (hmem : BIn w ma mem) (hnil : ma = none → mem = [] ∧ mcap = 0) (hmb : ∀ x ∈ mem, isB x) :
    Calls Tryz.prog 3 #[.agg #[.int .i64 regs, .slice bl ls.length cap], .slice ma mem.length mcap, .int .i64 most] w fun e w' => e = .returned (.bool true) ∧ Below w.heap.size w w' := by
  by_cases hx : exErr regs ls mem.length most = 0
  · have hpe : progErrW regs ls = 0 := by
      unfold exErr at hx
      split at hx
      · assumption
      · exact hx
    have hok : ¬ ((32768 : Int) < (mem.length : Int) ∨ most < 0 ∨ 200000 < most) := by
      unfold exErr at hx
      rw [if_pos hpe] at hx
      intro h
      rw [if_pos h] at hx
      cases hx
    obtain ⟨m, rfl⟩ : ∃ m : Nat, most = (m : Int) := ⟨most.toNat, by omega⟩
    have hm1 : mem.length ≤ 32768 := by omega
    have hm2 : m ≤ 200000 := by omega
    have hE : ∀ (r : List Int × Int × Nat × Bool) u e w', ExecPost r u e w' → Out (some r.1) r.2.1 r.2.2.1 0 u e w' := fun r u e w' h => by
      obtain ⟨⟨g, c, rfl, ho⟩, hb⟩ := h
      exact ⟨⟨_, rfl, g, c, rfl, ho⟩, hb⟩
    refine executes_of (some (runM ls 0 0 m ⟨List.replicate regs.toNat 0, mem, 0, 0, false⟩ 0).1) (runM ls 0 0 m ⟨List.replicate regs.toNat 0, mem, 0, 0, false⟩ 0).2.1 (runM ls 0 0 m ⟨List.replicate regs.toNat 0, mem, 0, 0, false⟩ 0).2.2.1 0 regs ls bl cap ma mcap mem m w hin hl hm hmem hnil (fun u ad c _ _ hi hb => ?_) (fun u _ _ hi hb => ?_)
    · exact (Execute_ok regs ls bl cap mem ad c m u hi hpe hm hb hmb hm1 hm2 him).mono (hE _ u)
    · refine (rExec_of (runM ls 0 0 m ⟨List.replicate regs.toNat 0, mem, 0, 0, false⟩ 0) regs ls.length mem.length cap mcap bl ma m u (fun v hv => ?_)).mono (hE _ u)
      cases ma with
      | none =>
        obtain ⟨h1, h2⟩ := hnil rfl
        have h := WatchN regs ls bl cap mem m v (hi.below hv) hpe hm h1 hm2 him
        rw [h2, show mem.length = 0 from by rw [h1]; rfl]
        exact h
      | some ad => exact WatchS regs ls bl cap mem ad mcap m v (hi.below hv) hpe hm (hb.below hv) hmb hm1 hm2 him
  · have hE : ∀ u e w', RefPost (exErr regs ls mem.length most) u e w' → Out none 0 0 (exErr regs ls mem.length most) u e w' := fun u e w' h => ⟨⟨_, h.1, rfl⟩, h.2⟩
    exact executes_of none 0 0 (exErr regs ls mem.length most) regs ls bl cap ma mcap mem most w hin hl hm hmem hnil (fun u ad c _ _ hi hb => (Execute_no regs ls bl cap (some ad) mem.length c most u hi hl hm hx).mono (hE u)) (fun u _ _ hi hb => (rExec_no regs ls bl cap ma mem.length mcap most u hi hl hm hx).mono (hE u))
end Go.Proofs.YtoldgjieplblpaaGreat.PK
