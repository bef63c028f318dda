/- The walk of the specification's Watch, at right programs, where no address is watched, and the memory is not nil. -/
import Derived.Test.YtjfpaelmcepidaaMR
namespace Go.Proofs.Ytjfpaelmcepidaa.PK
open Go.RowKit

set_option linter.unusedSimpArgs false in
set_option maxRecDepth 100000 in
set_option maxHeartbeats 128000000 in
theorem WatchS (regs : Int) (ls : List (List Cd)) (bl : Option Addr) (cap : Nat) (mem : List Int) (ad : Addr) (mcap most : Nat) (w : World) (hin : BlkIn w bl ls) (hv : progErrW regs ls = 0) (hlm : ∀ k, k < ls.length → (atB ls k).length ≤ 9223372036854775807) (hm : BIn w (some ad) mem) (hmb : ∀ x ∈ mem, isB x) (hml : mem.length ≤ 32768) (hmo : most ≤ 200000) (him : ∀ k i, k < ls.length → i < (atB ls k).length → (atC (atB ls k) i).im < 4294967296) :
    Calls Try.prog 30 #[.agg #[.int .i64 regs, .slice bl ls.length cap], .slice (some ad) mem.length mcap, .int .i64 most, .int .i64 0, .int .i64 0] w (WatchPost (runM ls 0 0 most ⟨List.replicate regs.toNat 0, mem, 0, 0, false⟩ 0) w) := by
  obtain ⟨hbig, hcode, hlast⟩ := prog_partsW hv
  have hb2 : 0 ≤ regs ∧ regs ≤ 200 ∧ 1 ≤ ls.length ∧ ls.length ≤ 400 := by unfold tooBigW at hbig; omega
  obtain ⟨hr0, hr1, hn0, hn1⟩ := hb2
  have HFit : Hid (FitM regs ls mem.length ⟨List.replicate regs.toNat 0, mem, 0, 0, false⟩) := Lib.hid ⟨by simp; omega, fun x hx => by rw [List.mem_replicate] at hx; rw [hx.2]; exact zero_w, rfl, hmb, hn0, (hlast 0 hn0).1⟩
  have HCd := Lib.hid hcode; have HLa := Lib.hid hlast
  have HV := Lib.hid (fun u (h : BlkIn u bl ls) => (by have h1 := rValidateW_any regs ls bl cap u h (by omega) hlm; rw [hv] at h1; exact h1 : Calls Try.prog 8 #[.agg #[.int .i64 regs, .slice bl ls.length cap]] u fun e w' => e = .returned (.int .i64 0) ∧ Below u.heap.size u w'))
  have HWi := Lib.hid rwithin_any
  have HI := Lib.hid hin; have HMm := Lib.hid hm
  have HIm := Lib.hid him
  have HLen := Lib.hid hlm
  clear hin hv hm hmb hbig hcode hlast him hlm
  have hmk := run_make_row' (P := Try.prog) 25 65 (.int .u32 0) 4 Try.underlying25 infoU32 rfl .i64 .i64 regs.toNat (by omega) (by omega)
  have hrn : ((regs.toNat : Nat) : Int) = regs := by omega
  rw [hrn] at hmk
  obtain ⟨i0, hi, ip0, ip1, ip2⟩ := info_parts infoU8
  go_enter Try.func30, Try.ntmps30
  go_upto_region 1 with (fail)
  have HB0 : Hid (Below w.heap.size w (w.alloc (.cells #[.int .i64 regs, .slice bl ls.length cap] 24))) := Lib.hid ((Below.refl _ _).alloc (Nat.le_refl _) _)
  have hp0 : (w.alloc (.cells #[.int .i64 regs, .slice bl ls.length cap] 24)).cell? ⟨w.heap.size, 0, none⟩ = some (.int .i64 regs) := by simp [go_sem]
  have hp1 : (w.alloc (.cells #[.int .i64 regs, .slice bl ls.length cap] 24)).cell? ⟨w.heap.size, 1, none⟩ = some (.slice bl ls.length cap) := by simp [go_sem]
  generalize w.alloc (.cells #[.int .i64 regs, .slice bl ls.length cap] 24) = w0 at *
  generalize hpq : w.heap.size = pq at hp0 hp1
  have hpq2 : pq < w0.heap.size := block_lt_of_cell hp0
  subst hpq
  go_wp2_with fail
  refine (HV.out _ (HI.out.below HB0.out)).mono ?_; rintro e w1 ⟨rfl, hb1⟩
  have HB1 := Lib.hid (HB0.out.trans (hb1.mono HB0.out.size))
  have HP0 := Lib.hid (keep hp0 hb1); have HP1 := Lib.hid (keep hp1 hb1)
  have hp0 := keep hp0 hb1
  have HI1 := Lib.hid (HI.out.below HB1.out)
  have HM1 := Lib.hid (HMm.out.below HB1.out)
  clear hb1 hp1 HB0 HI HMm HV
  go_wp2_with fail
  refine (HWi.out _ _ _ _).mono ?_; rintro e v ⟨rfl, rfl⟩
  have d1 : (decide ((0 : Int) ≤ (most : Int)) && decide ((most : Int) ≤ 200000)) = true := by simp; omega
  rw [d1]
  have HMw := Lib.hid (fun j u => news_src (HM1.out.below ((Below.refl w1.heap.size w1).alloc (Nat.le_refl _) (.cells #[] 5))) j u)
  have HE1 := Lib.hid (owns_empty w1 w1.heap.size (Nat.le_refl _) 5)
  have HEn := Lib.hid (encB_len mem)
  have HBE := Lib.hid ((Below.refl w1.heap.size w1).alloc (Nat.le_refl _) (.cells #[] 5))
  have HS63 : Hid (0 + mem.length ≤ maxLen) := Lib.hid (by unfold maxLen; omega)
  have HSb : Hid ((0 + mem.length) * 1 ≤ 140737488355328) := Lib.hid (by omega)
  have HNl : Hid ((encB mem).length = mem.length * 1) := Lib.hid (by rw [HEn.out, Nat.mul_one])
  have HP0e := Lib.hid (keep HP0.out HBE.out)
  clear d1
  generalize hmn : mem.length = n at *
  have HMn := Lib.hid hmn; clear hmn
  go_wp2_with (first | (at_builtin; refine wpList_append_own_at _ rfl _ _ 34 rfl w1.heap.size 5 i0 (.int .u8 0) 1 1 Try.underlying34 hi ip0 ip1 ip2 rfl (by decide) _ _ _ rfl HE1.out ad n mcap (encB mem) rfl HNl.out HMw.out (one_b _) HS63.out HSb.out HBE.out.size ?_; intro v9 w9 hown9 hgrow9 hnil9 hat9; have HN9 : Hid (¬ v9 = .slice none 0 0) := Lib.hid (fun e => by have := (hnil9.1 e).1; cases this); have HB9 := Lib.hid (HBE.out.grown hgrow9 HBE.out.size (fun k hk => Nat.le_of_eq (Option.some.inj hk))); have HO9 := Lib.hid hown9; have hp9 := keep HP0.out HB9.out; clear hown9 hgrow9 hat9 hnil9))
  rw [Nat.zero_add, List.nil_append] at HO9
  obtain ⟨g, mc, rfl, hBg, hgs⟩ := owns_some HO9.out HN9.out
  have hr9 := urow_made w9 regs.toNat
  have hal9 := (Below.refl w9.heap.size w9).alloc (Nat.le_refl _) (.cells (madeCells #[.int .u32 0] regs.toNat) 65)
  have HM0 : Hid (MchAt (w9.alloc (.cells (madeCells #[.int .u32 0] regs.toNat) 65)) w9.heap.size g mc w1.heap.size ⟨List.replicate regs.toNat 0, mem, 0, 0, false⟩) := Lib.hid ⟨hr9, by show (World.ownsRow _ _ _ _ (.slice _ mem.length _) mem.length _); rw [HMn.out]; exact owns_below HO9.out hal9⟩
  have HB10 := Lib.hid (HB9.out.trans (hal9.mono HB9.out.size))
  have hgq : g ≠ w9.heap.size := by omega
  have HBq : Hid (w1.heap.size ≤ w9.heap.size) := Lib.hid HB9.out.size
  have HPost : Hid (∀ (r : List Int × Int × Nat × Bool) w' (m : List Int) (e : Int) (k : Nat), r = (m, e, k, false) → m.length = n → w'.ownsRow w1.heap.size 5 1 (.slice (some ⟨g, 0, none⟩) n mc) n (encB m) → Below w1.heap.size w1 w' → WatchPost r w (.returned (.tuple #[.slice (some ⟨g, 0, none⟩) n mc, .int .i64 e, .int .i64 k, .bool false, .int .i64 0])) w') := Lib.hid (fun r w' m e k hr hmn ho hb => by
    subst hr
    subst hmn
    exact ⟨⟨g, mc, rfl, owns_base ho HB1.out.size⟩, HB1.out.trans (hb.mono HB1.out.size)⟩)
  generalize hres : runM ls 0 0 most ⟨List.replicate regs.toNat 0, mem, 0, 0, false⟩ 0 = RES at *
  have HRes := Lib.hid hres
  clear hres hr9 hal9 HO9 HB9 hp9 hp0 HE1 HBE HMw HP0e HM1 hmk
  generalize w9.alloc (.cells (madeCells #[.int .u32 0] regs.toNat) 65) = w10 at *
  generalize w9.heap.size = q at *
  go_loopw [16, 18, 19, 20] (fun tv bv pv nv wr => ∃ (s : Mach) (k : Nat), FitM regs ls n s ∧ s.tch = false ∧ k ≤ most ∧ bv = .int .i64 s.blk ∧ pv = .int .i64 s.pc ∧ nv = .int .i64 k ∧ tv = .bool false ∧ MchAt wr q g mc w1.heap.size s ∧ Below w1.heap.size w1 wr ∧ runM ls 0 0 (most - k) s k = RES) (fun _ _ _ nv _ => most - (intOf nv).toNat)
  case atStart => exact ⟨_, 0, HFit.out, rfl, Nat.zero_le _, rfl, rfl, rfl, rfl, HM0.out, HB10.out, HRes.out⟩
  case round =>
    obtain ⟨s, k, hfit, htch, hk, rfl, rfl, rfl, rfl, hmch, hb, hrun⟩ := hrel
    have HB := Lib.hid hb; have HMc := Lib.hid hmch; have HFt := Lib.hid hfit
    have p0 := keep HP0.out hb; have p1 := keep HP1.out hb
    clear HM0 HB10 HFit HRes
    by_cases hlt : k < most
    rotate_left
    · obtain rfl : k = most := by omega
      have hr : RES = (s.mem, 4, k, false) := by rw [← hrun, Nat.sub_self]; show (s.mem, 4, k, s.tch) = _; rw [htch]
      have HR := Lib.hid hr
      clear hb hmch hfit hrun hr htch p0 p1
      go_wp2_with fail
      ((try simp only [Exit.inBlock, Exit.then]); refine bodyPost_ret (results_tmp5 rfl _ _ _) rfl ?_)
      refine HPost.out _ _ s.mem 4 k HR.out HFt.out.ml ?_ HB.out
      have := HMc.out.m
      rwa [HFt.out.ml] at this
    have hkm : (k : Int) < (most : Int) := by omega
    obtain ⟨f, hf⟩ : ∃ f, most - k = f + 1 := ⟨most - k - 1, by omega⟩
    have hf2 : most - (k + 1) = f := by omega
    rw [hf] at hrun
    have HOn : Hid (∀ s', stepM s (atC (atB ls s.blk) s.pc) 0 0 k = .on s' → runM ls 0 0 (most - (k + 1)) s' (k + 1) = RES) := Lib.hid (fun s' h => by rw [hf2, ← runM_on h]; exact hrun)
    have HOut : Hid (∀ m e k' t, stepM s (atC (atB ls s.blk) s.pc) 0 0 k = .out m e k' t → RES = (m, e, k', t)) := Lib.hid (fun m e k' t h => by rw [← runM_out h]; exact hrun.symm)
    have hbk := hfit.bk; have hpc := hfit.pc
    have hbll := HLen.out s.blk hbk
    have him := HIm.out s.blk s.pc hbk hpc
    have hcode := HCd.out s.blk s.pc hbk hpc
    obtain ⟨hop, hd1, hd0, ha1, ha0, hb1, hb0, ht1, ht0, hi0⟩ := code_parts hcode
    have hnext := hfit.next ((HLa.out s.blk hbk).2 s.pc hpc)
    have HAw := Lib.hid (opA_w hfit (atC (atB ls s.blk) s.pc)); have HBw := Lib.hid (opB_w hfit (atC (atB ls s.blk) s.pc))
    have HNx := Lib.hid hnext
    obtain ⟨tb, toff, ba, cp, rfl, hck, hcs⟩ := HI1.out.below hb s.blk hbk
    obtain ⟨bb, off, rfl, hcx⟩ := hcs s.pc hpc
    have hbki : (s.blk : Int) < (ls.length : Int) := by omega
    have hpci : (s.pc : Int) < ((atB ls s.blk).length : Int) := by omega
    have HHas := Lib.hid (rhas_any (atC (atB ls s.blk) s.pc).op)
    have HMem := Lib.hid (rMem20_any (atC (atB ls s.blk) s.pc).op)
    unfold lowA at ha1
    clear hb hmch hfit hcs hrun hf hf2 hcode hnext
    generalize atC (atB ls s.blk) s.pc = x at *
    generalize hbl : (atB ls s.blk).length = bll at *
    have HBl := Lib.hid hbl; clear hbl
    obtain ⟨x0, x1, x2, x3, x4, x5⟩ := x
    obtain ⟨c0, c1, c2, c3, c4, c5⟩ := hcx
    simp only at c0 c1 c2 c3 c4 c5 him hop hd1 hd0 ha1 ha0 hb1 hb0 ht1 ht0 hi0 HHas HMem HNx
    have HX := Lib.hid (cdAt_new wr ⟨x0, x1, x2, x3, x4, x5⟩ 68)
    have HX : Hid (CdAt (wr.alloc (.cells #[.int .i64 x0, .int .i64 x1, .int .i64 x2, .int .i64 x3, .int .u32 x4, .int .i64 x5] 68)) wr.heap.size 0 ⟨x0, x1, x2, x3, x4, x5⟩) := HX
    have hal := (Below.refl wr.heap.size wr).alloc (Nat.le_refl _) (.cells #[.int .i64 x0, .int .i64 x1, .int .i64 x2, .int .i64 x3, .int .u32 x4, .int .i64 x5] 68)
    have HMc3 := Lib.hid (HMc.out.below hal)
    have HB3 := Lib.hid (HB.out.trans (hal.mono HB.out.size))
    have HQx : Hid (q < wr.heap.size) := Lib.hid HMc.out.u.lt
    have HGx : Hid (g < wr.heap.size) := Lib.hid (by
      have := (owns_block HMc.out.m (g := g) rfl).2
      exact this)
    clear hal HMc HB
    have HRl := Lib.hid HFt.out.rl
    go_upto_region 13 with (fail)
    generalize wr.alloc (.cells #[.int .i64 x0, .int .i64 x1, .int .i64 x2, .int .i64 x3, .int .u32 x4, .int .i64 x5] 68) = w3 at *
    generalize wr.heap.size = qx at *
    obtain ⟨e0, e1, e2, e3, e4, e5⟩ := cell_six_in0 HX.out
    simp only at e0 e1 e2 e3 e4 e5
    have hqx := HQx.out
    clear c0 c1 c2 c3 c4 c5 p0 p1 hck
    have hrl2 : (s.rg.length : Int) = regs := HRl.out
    have hopc : x0 = 0 ∨ x0 = 1 ∨ (2 ≤ x0 ∧ x0 ≤ 17) ∨ (18 ≤ x0 ∧ x0 ≤ 20) ∨ (21 ≤ x0 ∧ x0 ≤ 23) ∨ x0 = 24 ∨ x0 = 25 ∨ x0 = 26 ∨ x0 = 27 := by omega

    go_wp2_with fail
    refine (HHas.out _).mono ?_; rintro e v ⟨rfl, rfl⟩
    obtain ⟨va, hVA⟩ : ∃ v, opA s ⟨x0, x1, x2, x3, x4, x5⟩ = v := ⟨_, rfl⟩
    obtain ⟨vb, hVB⟩ : ∃ v, opB s ⟨x0, x1, x2, x3, x4, x5⟩ = v := ⟨_, rfl⟩
    have hva := HAw.out
    have hvb := HBw.out
    rw [hVA] at hva
    rw [hVB] at hvb
    have HVa := Lib.hid hVA; have HVb := Lib.hid hVB
    obtain ⟨P, hPP⟩ : ∃ P, plc s ⟨x0, x1, x2, x3, x4, x5⟩ = P := ⟨_, rfl⟩
    have hPn : (va + (x4 : Int)) % 4294967296 = (P : Int) := by rw [← hPP]; unfold plc; rw [hVA]; exact (Int.toNat_of_nonneg (Int.emod_nonneg _ (by decide))).symm
    have HPl := Lib.hid hPn
    have HPp := Lib.hid hPP
    have HPw : Hid ((P : Int) < 4294967296) := Lib.hid (by rw [← hPn]; exact Int.emod_lt_of_pos _ (by decide))
    clear hVA hVB hPn hPP HAw HBw
    go_upto_region 15 with (fail)
    go_cut [23, 76] from 49 to 219 (fun t23 t76 wx => t23 = .bool (fA x0) ∧ t76 = .bool (fA x0 && decide (0 ≤ x2)) ∧ wx = w3)
    case first =>
      cases hfa : fA x0
      · go_wp2_with fail
        go_meet
        case rel => exact ⟨by rw [hfa], by rw [hfa]; rfl, rfl⟩
      · by_cases h20 : 0 ≤ x2
        · have h20b : decide (0 ≤ x2) = true := decide_eq_true h20
          go_wp2_with fail
          go_meet
          case rel => exact ⟨by rw [hfa], by rw [hfa, h20b]; rfl, rfl⟩
        · have h20b : decide (0 ≤ x2) = false := decide_eq_false h20
          go_wp2_with fail
          go_meet
          case rel => exact ⟨by rw [hfa], by rw [hfa, h20b]; rfl, rfl⟩
    case rest =>
    obtain ⟨rfl, rfl, rfl⟩ := hcut
    go_upto_if 76 with (fail)
    go_cut [27] from 49 to 219 (fun t27 wx => t27 = .int .u32 va ∧ wx = wc)
    case first =>
      cases hAA : (fA x0 && decide (0 ≤ x2))
      · have h0 : va = 0 := by
          rw [← HVa.out]
          unfold opA
          rw [if_neg]
          intro c
          rw [Bool.and_eq_false_iff] at hAA
          rcases hAA with h | h
          · rw [h] at c; exact absurd c.1 (by decide)
          · exact of_decide_eq_false h c.2
        subst h0
        go_wp2_with fail
        go_meet
        case rel => exact ⟨rfl, rfl⟩
      · rw [Bool.and_eq_true, decide_eq_true_eq] at hAA
        obtain ⟨hfA, h20⟩ := hAA
        have hx2 := ha1 hfA
        obtain ⟨na, rfl⟩ := Int.eq_ofNat_of_zero_le h20
        have har : na < s.rg.length := by omega
        have hca := HMc3.out.u.cell har
        have hvv : va = s.rg.getD na 0 := by rw [← HVa.out]; exact opA_at hfA rfl
        rw [← hvv] at hca
        clear hvv
        have hna2 : (na : Int) < ((regs.toNat : Nat) : Int) := by omega
        go_wp2_with fail
        go_meet
        case rel => exact ⟨rfl, rfl⟩
    case rest =>
    obtain ⟨rfl, rfl⟩ := hcut
    go_upto_if 82 with (fail)
    go_cut [24, 28] from 49 to 219 (fun t24 t28 wx => t24 = .bool (fB x0) ∧ t28 = .int .u32 vb ∧ wx = wc)
    case first =>
      cases hfb : fB x0
      · have h0 : vb = 0 := by rw [← HVb.out]; exact opB_no hfb
        subst h0
        go_wp2_with fail
        go_meet
        case rel => exact ⟨by rw [hfb], rfl, rfl⟩
      · have hx3 := hb1 hfb
        obtain ⟨nb, rfl⟩ := Int.eq_ofNat_of_zero_le hx3.1
        have hbr : nb < s.rg.length := by omega
        have hcb := HMc3.out.u.cell hbr
        have hvv : vb = s.rg.getD nb 0 := by rw [← HVb.out]; exact opB_at hfb rfl
        rw [← hvv] at hcb
        clear hvv
        have hnb2 : (nb : Int) < ((regs.toNat : Nat) : Int) := by omega
        go_wp2_with fail
        go_meet
        case rel => exact ⟨by rw [hfb], rfl, rfl⟩
    case rest =>
    obtain ⟨rfl, rfl, rfl⟩ := hcut
    go_wp2_with fail
    refine (HMem.out _).mono ?_; rintro e v ⟨rfl, rfl⟩
    clear HHas HMem

    rcases hopc with hc | hc | hc | hc | hc | hc | hc | hc | hc
    · as_aux_lemma =>
        subst hc
        have hfD : fD 0 = true := decide_eq_true (by omega)
        have hfA : fA 0 = false := decide_eq_false (by omega)
        have hfB : fB 0 = false := decide_eq_false (by omega)
        have hfI : fI 0 = true := decide_eq_true (by omega)
        have hfT : fT 0 = false := decide_eq_false (by omega)
        have hfM : fM 0 = false := decide_eq_false (by omega)
        rw [hfM]
        have hnx := HNx.out (last_no (by omega) (by omega) (by omega))
        have hx1 := hd1 hfD
        obtain ⟨nd, rfl⟩ := Int.eq_ofNat_of_zero_le hx1.1
        have hdr : nd < s.rg.length := by omega
        have hcd := HMc3.out.u.cell hdr
        have hfd := HMc3.out.u.free nd
        generalize s.rg.getD nd 0 = vold at hcd
        have hnd2 : (nd : Int) < ((regs.toNat : Nat) : Int) := by omega
        have HIw : isW (x4 : Int) := ⟨by omega, by omega⟩
        have hst := HOn.out _ (step_li (x := ⟨0, (nd : Int), x2, x3, x4, x5⟩) rfl)
        go_wp2_with fail
        go_roundw
        case rel =>
          refine ⟨putR s (nd : Int) (x4 : Int), k + 1, HFt.out.put (by rw [HBl.out]; exact hnx) _ HIw, htch, by omega, rfl, by go_num, by go_num, rfl, ⟨?_, ?_⟩, ?_, hst⟩
          · show URow _ q (s.rg.set (nd : Int).toNat _)
            rw [Int.toNat_natCast]
            exact HMc3.out.u.set nd _
          · exact row_save HMc3.out.m (Save.set q nd wc _) hgq
          · exact HB3.out.trans ((Save.set q nd wc _).below HBq.out HB3.out.size)
        case measure => simp [intOf]; omega
    · as_aux_lemma =>
        subst hc
        have hfD : fD 1 = true := decide_eq_true (by omega)
        have hfA : fA 1 = true := decide_eq_true (by omega)
        have hfB : fB 1 = false := decide_eq_false (by omega)
        have hfI : fI 1 = false := decide_eq_false (by omega)
        have hfT : fT 1 = false := decide_eq_false (by omega)
        have hfM : fM 1 = false := decide_eq_false (by omega)
        rw [hfM]
        have hnx := HNx.out (last_no (by omega) (by omega) (by omega))
        have hx1 := hd1 hfD
        obtain ⟨nd, rfl⟩ := Int.eq_ofNat_of_zero_le hx1.1
        have hdr : nd < s.rg.length := by omega
        have hcd := HMc3.out.u.cell hdr
        have hfd := HMc3.out.u.free nd
        generalize s.rg.getD nd 0 = vold at hcd
        have hnd2 : (nd : Int) < ((regs.toNat : Nat) : Int) := by omega
        have hst := HOn.out _ (step_mv (x := ⟨1, (nd : Int), x2, x3, x4, x5⟩) rfl)
        rw [HVa.out] at hst
        go_wp2_with fail
        go_roundw
        case rel =>
          refine ⟨putR s (nd : Int) va, k + 1, HFt.out.put (by rw [HBl.out]; exact hnx) _ hva, htch, by omega, rfl, by go_num, by go_num, rfl, ⟨?_, ?_⟩, ?_, hst⟩
          · show URow _ q (s.rg.set (nd : Int).toNat _)
            rw [Int.toNat_natCast]
            exact HMc3.out.u.set nd _
          · exact row_save HMc3.out.m (Save.set q nd wc _) hgq
          · exact HB3.out.trans ((Save.set q nd wc _).below HBq.out HB3.out.size)
        case measure => simp [intOf]; omega
    · as_aux_lemma =>
        have hne0 : ¬ x0 = 0 := by omega
        have hne1 : ¬ x0 = 1 := by omega
        have hle17 : x0 ≤ 17 := hc.2
        have hfD : fD x0 = true := decide_eq_true (by omega)
        have hfA : fA x0 = true := decide_eq_true (by omega)
        have hfB : fB x0 = true := decide_eq_true (by omega)
        have hfI : fI x0 = false := decide_eq_false (by omega)
        have hfT : fT x0 = false := decide_eq_false (by omega)
        have hfM : fM x0 = false := decide_eq_false (by omega)
        rw [hfM]
        have hnx := HNx.out (last_no (by omega) (by omega) (by omega))
        have hx1 := hd1 hfD
        obtain ⟨nd, rfl⟩ := Int.eq_ofNat_of_zero_le hx1.1
        have hdr : nd < s.rg.length := by omega
        have hcd := HMc3.out.u.cell hdr
        have hfd := HMc3.out.u.free nd
        generalize s.rg.getD nd 0 = vold at hcd
        have hnd2 : (nd : Int) < ((regs.toNat : Nat) : Int) := by omega
        have HBrk := Lib.hid (breaks_any x0 va vb)
        have HSb := Lib.hid (fun h => HOut.out _ _ _ _ (step_brk (x := ⟨x0, (nd : Int), x2, x3, x4, x5⟩) hc (by show brkF x0 (opA s _) (opB s _) = _; rw [HVa.out, HVb.out]; exact h)))
        have HSo := Lib.hid (fun h => HOn.out _ (step_op (x := ⟨x0, (nd : Int), x2, x3, x4, x5⟩) hc (by show brkF x0 (opA s _) (opB s _) = _; rw [HVa.out, HVb.out]; exact h)))
        rw [HVa.out, HVb.out] at HSo
        have HRes2 : Hid (brkF x0 va vb = false → ∀ u : World, Calls Try.prog 70 #[.int .i64 x0, .int .u32 va, .int .u32 vb] u fun e w' => e = .returned (.int .u32 (resF x0 va vb)) ∧ w' = u) := Lib.hid (fun h u => (result_any hc hva hvb h u).mono (fun e w' h => ⟨h.1, h.2.symm⟩))
        have hrw : isW (resF x0 va vb) := resF_w hva hvb
        generalize resF x0 va vb = rv at *
        clear him hi0
        have hq0 : (x0 == 0) = false := by simpa using hne0
        have hq1 : (x0 == 1) = false := by simpa using hne1
        go_wp2_with fail
        refine (HBrk.out _).mono ?_; rintro e v ⟨rfl, rfl⟩
        cases hbk : brkF x0 va vb
        · skip
          have hst := HSo.out hbk
          have HRs := Lib.hid (HRes2.out hbk)
          clear HSo HSb HRes2 hbk
          go_wp2_with fail
          refine wp_region_still_tail 9 (by kernel_rfl) (by kernel_rfl) ?_
          simp only [List.take_succ_cons, List.take_zero, List.drop_succ_cons, List.drop_zero]
          repeat still_step
          still_call (HRs.out _)
          repeat still_step
          refine wpStill_nil ?_
          change wpList _ _ _ _ _ wc.drew
          have HMcd : Hid (MchAt wc.drew q g mc w1.heap.size s) := Lib.hid ⟨HMc3.out.u, HMc3.out.m⟩
          have HBd : Hid (Below w1.heap.size w1 wc.drew) := Lib.hid (below_drew1 HB3.out)
          have hcd2 : wc.drew.cell? ⟨q, nd, none⟩ = some (.int .u32 vold) := hcd
          have hfd2 : wc.drew.frozen? ⟨q, nd, none⟩ = false := hfd
          clear hcd hfd HMc3 HB3
          generalize wc.drew = w3d at *
          go_wp2_with fail
          go_roundw
          case rel =>
            refine ⟨putR s (nd : Int) rv, k + 1, HFt.out.put (by rw [HBl.out]; exact hnx) _ hrw, htch, by omega, rfl, by go_num, by go_num, rfl, ⟨?_, ?_⟩, ?_, hst⟩
            · show URow _ q (s.rg.set (nd : Int).toNat _)
              rw [Int.toNat_natCast]
              exact HMcd.out.u.set nd _
            · exact row_save HMcd.out.m (Save.set q nd w3d _) hgq
            · exact HBd.out.trans ((Save.set q nd w3d _).below HBq.out HBd.out.size)
          case measure => simp [intOf]; omega
        · skip
          have hst := HSb.out hbk
          clear HSo HSb HRes2 hbk
          go_wp2_with fail
          ((try simp only [Exit.inBlock, Exit.then]); refine bodyPost_ret (results_tmp5 rfl _ _ _) rfl ?_)
          refine HPost.out _ _ s.mem 5 k (by first | exact hst | rw [hst, htch]) HFt.out.ml ?_ HB3.out
          have := HMc3.out.m
          rwa [HFt.out.ml] at this
    · as_aux_lemma =>
        have hlt21 : x0 < 21 := by omega
        have hge21b : decide ((21 : Int) ≤ x0) = false := decide_eq_false (by omega)
        have hfD : fD x0 = true := decide_eq_true (by omega)
        have hfA : fA x0 = true := decide_eq_true (by omega)
        have hfB : fB x0 = false := decide_eq_false (by omega)
        have hfI : fI x0 = true := decide_eq_true (by omega)
        have hfT : fT x0 = false := decide_eq_false (by omega)
        have hfM : fM x0 = true := decide_eq_true (by omega)
        rw [hfM]
        have hnx := HNx.out (last_no (by omega) (by omega) (by omega))
        have hx1 := hd1 hfD
        obtain ⟨nd, rfl⟩ := Int.eq_ofNat_of_zero_le hx1.1
        have hdr : nd < s.rg.length := by omega
        have hcd := HMc3.out.u.cell hdr
        have hfd := HMc3.out.u.free nd
        generalize s.rg.getD nd 0 = vold at hcd
        have hnd2 : (nd : Int) < ((regs.toNat : Nat) : Int) := by omega
        have HByt : Hid (∀ u : World, Calls Try.prog 66 #[.int .i64 x0] u fun e w' => e = .returned (.int .i64 (nB x0)) ∧ u = w') := Lib.hid (bytes_any (by omega))
        have hnb4 := nB_le x0
        have HFl := Lib.hid (fun h => HOut.out _ _ _ _ (step_flt (x := ⟨x0, (nd : Int), x2, x3, x4, x5⟩) ⟨by show (18 : Int) ≤ x0; omega, by show x0 ≤ 23; omega⟩ h))
        have HGo := Lib.hid (fun h => HOn.out _ (step_ld (x := ⟨x0, (nd : Int), x2, x3, x4, x5⟩) hc h))
        have HTc := Lib.hid (tch0 (s := s) ⟨x0, (nd : Int), x2, x3, x4, x5⟩ htch)
        rw [HTc.out] at HFl HGo
        rw [HFt.out.ml] at HFl HGo
        rw [HPp.out] at HFl HGo
        generalize hnbb : nB x0 = nb8 at *
        clear hnbb
        have HW64 := Lib.hid (w64_two HPw.out hnb4)
        have HW64p := Lib.hid (w64_one HPw.out)
        clear him hi0
        go_upto_region 21 with (fail)
        simp only [HPl.out]
        have hPneg : ¬ (P : Int) < 0 := by omega
        go_wp2_with (simp only [HW64p.out])
        refine (HByt.out _).mono ?_; rintro e v ⟨rfl, rfl⟩
        by_cases hflt : n < P + nb8
        · as_aux_lemma =>
          have hst := HFl.out hflt
          have hfi : (n : Int) < (P : Int) + (nb8 : Int) := by omega
          clear HGo HFl
          go_wp2_with (first | simp only [HW64.out] | simp only [HW64p.out])
          ((try simp only [Exit.inBlock, Exit.then]); refine bodyPost_ret (results_tmp5 rfl _ _ _) rfl ?_)
          refine HPost.out _ _ s.mem 3 k (by first | exact hst | rw [hst, htch]) HFt.out.ml ?_ HB3.out
          have := HMc3.out.m
          rwa [HFt.out.ml] at this
        · as_aux_lemma =>
          have hst := HGo.out hflt
          have hfi : ¬ (n : Int) < (P : Int) + (nb8 : Int) := by omega
          clear HGo HFl
          have hfid := decide_eq_false hfi
          go_upto_if 121 with (first | simp only [HW64.out] | simp only [HW64p.out])
          have hBI := bin_owns HMc3.out.m
          have hmle := HFt.out.ml
          have HRd : Hid (∀ u : World, BIn u (some ⟨g, 0, none⟩) s.mem → Calls Try.prog 68 #[.slice (some ⟨g, 0, none⟩) s.mem.length mc, .int .i64 P, .int .i64 nb8] u fun e w' => e = .returned (.int .u32 (rdF s.mem P nb8)) ∧ w' = u) := Lib.hid (fun u hu => (read_any s.mem (some ⟨g, 0, none⟩) mc P nb8 u hu HFt.out.mb (by omega) (by omega)).mono (fun e w' h => ⟨h.1, h.2.symm⟩))
          rw [hmle] at HRd
          have hwp : IntKind.i64.wrap (P : Int) = (P : Int) := by have := HPw.out; rw [IntKind.wrap_i64]; omega
          have HRd2 : Hid (Calls Try.prog 68 #[.slice (some ⟨g, 0, none⟩) n mc, .int .i64 (IntKind.i64.wrap (P : Int)), .int .i64 nb8] wc.drew fun e w' => e = .returned (.int .u32 (rdF s.mem P nb8)) ∧ w' = wc.drew) := Lib.hid (by rw [hwp]; exact HRd.out wc.drew hBI)
          clear hwp
          have hrw : isW (rdF s.mem P nb8) := rdD_w _ _ _ _
          have HBy2 : Hid (∀ u : World, Calls Try.prog 66 #[.int .i64 x0] u fun e w' => e = .returned (.int .i64 nb8) ∧ w' = u) := Lib.hid (fun u => (HByt.out u).mono (fun e w' h => ⟨h.1, h.2.symm⟩))
          generalize rdF s.mem P nb8 = rv at *
          clear hmle hBI HRd
          go_upto_region 26 with (first | simp only [HW64.out] | simp only [HW64p.out])
          refine wp_region_still_tail 11 (by kernel_rfl) (by kernel_rfl) ?_
          simp only [List.take_succ_cons, List.take_zero, List.drop_succ_cons, List.drop_zero]
          repeat still_step
          still_call (HBy2.out _)
          repeat still_step
          still_call (HRd2.out)
          repeat still_step
          refine wpStill_nil ?_
          change wpList _ _ _ _ _ wc.drew
          have HMcd : Hid (MchAt wc.drew q g mc w1.heap.size s) := Lib.hid ⟨HMc3.out.u, HMc3.out.m⟩
          have HBd : Hid (Below w1.heap.size w1 wc.drew) := Lib.hid (below_drew1 HB3.out)
          have hcd2 : wc.drew.cell? ⟨q, nd, none⟩ = some (.int .u32 vold) := hcd
          have hfd2 : wc.drew.frozen? ⟨q, nd, none⟩ = false := hfd
          clear hcd hfd HMc3 HB3
          generalize wc.drew = w3d at *
          go_wp2_with fail
          go_roundw
          case rel =>
            refine ⟨{ s with rg := s.rg.set (nd : Int).toNat rv, pc := s.pc + 1, tch := false }, k + 1, ⟨by show ((s.rg.set _ _).length : Int) = _; rw [List.length_set]; exact HFt.out.rl, set_w HFt.out.rw hrw _, HFt.out.ml, HFt.out.mb, HFt.out.bk, by show s.pc + 1 < _; rw [HBl.out]; exact hnx⟩, rfl, by omega, rfl, by go_num, by go_num, rfl, ⟨?_, ?_⟩, ?_, hst⟩
            · show URow _ q (s.rg.set (nd : Int).toNat _)
              rw [Int.toNat_natCast]
              exact HMcd.out.u.set nd _
            · exact row_save HMcd.out.m (Save.set q nd w3d _) hgq
            · exact HBd.out.trans ((Save.set q nd w3d _).below HBq.out HBd.out.size)
          case measure => simp [intOf]; omega
    · as_aux_lemma =>
        have hge21 : 21 ≤ x0 := hc.1
        have hfD : fD x0 = false := decide_eq_false (by omega)
        have hfA : fA x0 = true := decide_eq_true (by omega)
        have hfB : fB x0 = true := decide_eq_true (by omega)
        have hfI : fI x0 = true := decide_eq_true (by omega)
        have hfT : fT x0 = false := decide_eq_false (by omega)
        have hfM : fM x0 = true := decide_eq_true (by omega)
        rw [hfM]
        have hnx := HNx.out (last_no (by omega) (by omega) (by omega))
        have HByt : Hid (∀ u : World, Calls Try.prog 66 #[.int .i64 x0] u fun e w' => e = .returned (.int .i64 (nB x0)) ∧ u = w') := Lib.hid (bytes_any (by omega))
        have hnb4 := nB_le x0
        have HFl := Lib.hid (fun h => HOut.out _ _ _ _ (step_flt (x := ⟨x0, x1, x2, x3, x4, x5⟩) ⟨by show (18 : Int) ≤ x0; omega, by show x0 ≤ 23; omega⟩ h))
        have HGo := Lib.hid (fun h => HOn.out _ (step_st (x := ⟨x0, x1, x2, x3, x4, x5⟩) hc h))
        rw [HVb.out] at HGo
        have HTc := Lib.hid (tch0 (s := s) ⟨x0, x1, x2, x3, x4, x5⟩ htch)
        rw [HTc.out] at HFl HGo
        rw [HFt.out.ml] at HFl HGo
        rw [HPp.out] at HFl HGo
        generalize hnbb : nB x0 = nb8 at *
        clear hnbb
        have HW64 := Lib.hid (w64_two HPw.out hnb4)
        have HW64p := Lib.hid (w64_one HPw.out)
        clear him hi0
        go_upto_region 21 with (fail)
        simp only [HPl.out]
        have hPneg : ¬ (P : Int) < 0 := by omega
        go_wp2_with (simp only [HW64p.out])
        refine (HByt.out _).mono ?_; rintro e v ⟨rfl, rfl⟩
        by_cases hflt : n < P + nb8
        · as_aux_lemma =>
          have hst := HFl.out hflt
          have hfi : (n : Int) < (P : Int) + (nb8 : Int) := by omega
          clear HGo HFl
          go_wp2_with (first | simp only [HW64.out] | simp only [HW64p.out])
          ((try simp only [Exit.inBlock, Exit.then]); refine bodyPost_ret (results_tmp5 rfl _ _ _) rfl ?_)
          refine HPost.out _ _ s.mem 3 k (by first | exact hst | rw [hst, htch]) HFt.out.ml ?_ HB3.out
          have := HMc3.out.m
          rwa [HFt.out.ml] at this
        · as_aux_lemma =>
          have hst := HGo.out hflt
          have hfi : ¬ (n : Int) < (P : Int) + (nb8 : Int) := by omega
          clear HGo HFl
          have hfid := decide_eq_false hfi
          go_upto_if 121 with (first | simp only [HW64.out] | simp only [HW64p.out])
          have hmle := HFt.out.ml
          have HWr := Lib.hid (write_any s.mem w1.heap.size g mc P nb8 vb wc HMc3.out.m (by omega) (by omega) hnb4 hvb)
          rw [hmle] at HWr
          clear hmle
          go_upto_region 25 with (first | simp only [HW64.out] | simp only [HW64p.out])
          go_wp2_with (first | simp only [HW64.out] | simp only [HW64p.out])
          refine (HByt.out _).mono ?_; rintro e v ⟨rfl, rfl⟩
          go_wp2_with (first | simp only [HW64.out] | simp only [HW64p.out])
          refine HWr.out.mono ?_; rintro e w5 ⟨rfl, ho5, hs5⟩
          have HO5 := Lib.hid ho5; have HS5 := Lib.hid hs5
          clear ho5 hs5 HWr
          go_wp2_with fail
          go_roundw
          case rel =>
            have hwl : (wrF s.mem P nb8 vb).length = n := by unfold wrF; rw [wrD_len]; exact HFt.out.ml
            refine ⟨{ s with mem := wrF s.mem P nb8 vb, pc := s.pc + 1, tch := false }, k + 1, ⟨HFt.out.rl, HFt.out.rw, hwl, wrD_b HFt.out.mb _, HFt.out.bk, by show s.pc + 1 < _; rw [HBl.out]; exact hnx⟩, rfl, by omega, rfl, by go_num, by go_num, rfl, ⟨HMc3.out.u.save HS5.out (fun e => hgq e.symm), ?_⟩, HB3.out.trans (HS5.out.below (by omega) HB3.out.size), hst⟩
            show (World.ownsRow _ _ _ _ (.slice _ (wrF s.mem P nb8 vb).length _) (wrF s.mem P nb8 vb).length _)
            rw [hwl]
            exact HO5.out
          case measure => simp [intOf]; omega
    · as_aux_lemma =>
        subst hc
        have hfD : fD 24 = false := decide_eq_false (by omega)
        have hfA : fA 24 = false := decide_eq_false (by omega)
        have hfB : fB 24 = false := decide_eq_false (by omega)
        have hfI : fI 24 = false := decide_eq_false (by omega)
        have hfT : fT 24 = true := decide_eq_true (by omega)
        have hfM : fM 24 = false := decide_eq_false (by omega)
        rw [hfM]
        have hx5 := ht1 hfT
        obtain ⟨nt, rfl⟩ := Int.eq_ofNat_of_zero_le hx5.1
        have hnt : nt < ls.length := by omega
        have hpos := (HLa.out nt hnt).1
        have hst := HOn.out _ (step_jmp (x := ⟨24, x1, x2, x3, x4, (nt : Int)⟩) rfl)
        go_wp2_with fail
        go_roundw
        case rel => exact ⟨{ s with blk := (nt : Int).toNat, pc := 0 }, k + 1, ⟨HFt.out.rl, HFt.out.rw, HFt.out.ml, HFt.out.mb, by show (nt : Int).toNat < _; rw [Int.toNat_natCast]; exact hnt, by show 0 < (atB ls (nt : Int).toNat).length; rw [Int.toNat_natCast]; exact hpos⟩, htch, by omega, by show Value.int .i64 (nt : Int) = .int .i64 (((nt : Int).toNat : Nat) : Int); rw [Int.toNat_natCast], rfl, by go_num, rfl, ⟨HMc3.out.u, HMc3.out.m⟩, HB3.out, hst⟩
        case measure => simp [intOf]; omega
    · as_aux_lemma =>
        subst hc
        have hfD : fD 25 = false := decide_eq_false (by omega)
        have hfA : fA 25 = true := decide_eq_true (by omega)
        have hfB : fB 25 = false := decide_eq_false (by omega)
        have hfI : fI 25 = false := decide_eq_false (by omega)
        have hfT : fT 25 = true := decide_eq_true (by omega)
        have hfM : fM 25 = false := decide_eq_false (by omega)
        rw [hfM]
        have hnx := HNx.out (last_no (by omega) (by omega) (by omega))
        have hx5 := ht1 hfT
        obtain ⟨nt, rfl⟩ := Int.eq_ofNat_of_zero_le hx5.1
        have hnt : nt < ls.length := by omega
        have hpos := (HLa.out nt hnt).1
        by_cases hz : va = 0
        · skip
          have hst := HOn.out _ (step_bz (x := ⟨25, x1, x2, x3, x4, (nt : Int)⟩) rfl (by rw [HVa.out]; exact hz))
          have hzb : (va != 0) = false := by simp [hz]
          go_wp2_with fail
          go_roundw
          case rel => exact ⟨{ s with pc := s.pc + 1 }, k + 1, ⟨HFt.out.rl, HFt.out.rw, HFt.out.ml, HFt.out.mb, HFt.out.bk, by show s.pc + 1 < _; rw [HBl.out]; exact hnx⟩, htch, by omega, rfl, by go_num, by go_num, rfl, ⟨HMc3.out.u, HMc3.out.m⟩, HB3.out, hst⟩
          case measure => simp [intOf]; omega
        · skip
          have hst := HOn.out _ (step_bnz (x := ⟨25, x1, x2, x3, x4, (nt : Int)⟩) rfl (by rw [HVa.out]; exact hz))
          have hzb : (va != 0) = true := by simpa using hz
          go_wp2_with fail
          go_roundw
          case rel => exact ⟨{ s with blk := (nt : Int).toNat, pc := 0 }, k + 1, ⟨HFt.out.rl, HFt.out.rw, HFt.out.ml, HFt.out.mb, by show (nt : Int).toNat < _; rw [Int.toNat_natCast]; exact hnt, by show 0 < (atB ls (nt : Int).toNat).length; rw [Int.toNat_natCast]; exact hpos⟩, htch, by omega, by show Value.int .i64 (nt : Int) = .int .i64 (((nt : Int).toNat : Nat) : Int); rw [Int.toNat_natCast], rfl, by go_num, rfl, ⟨HMc3.out.u, HMc3.out.m⟩, HB3.out, hst⟩
          case measure => simp [intOf]; omega
    · as_aux_lemma =>
        subst hc
        have hfD : fD 26 = false := decide_eq_false (by omega)
        have hfA : fA 26 = false := decide_eq_false (by omega)
        have hfB : fB 26 = false := decide_eq_false (by omega)
        have hfI : fI 26 = false := decide_eq_false (by omega)
        have hfT : fT 26 = false := decide_eq_false (by omega)
        have hfM : fM 26 = false := decide_eq_false (by omega)
        rw [hfM]
        have hst := HOut.out _ _ _ _ (step_halt (x := ⟨26, x1, x2, x3, x4, x5⟩) rfl)
        go_wp2_with fail
        ((try simp only [Exit.inBlock, Exit.then]); refine bodyPost_ret (results_tmp5 rfl _ _ _) rfl ?_)
        refine HPost.out _ _ s.mem 1 (k + 1) (by first | exact hst | rw [hst, htch]) HFt.out.ml ?_ HB3.out
        have := HMc3.out.m
        rwa [HFt.out.ml] at this
    · as_aux_lemma =>
        subst hc
        have hfD : fD 27 = false := decide_eq_false (by omega)
        have hfA : fA 27 = false := decide_eq_false (by omega)
        have hfB : fB 27 = false := decide_eq_false (by omega)
        have hfI : fI 27 = false := decide_eq_false (by omega)
        have hfT : fT 27 = false := decide_eq_false (by omega)
        have hfM : fM 27 = false := decide_eq_false (by omega)
        rw [hfM]
        have hst := HOut.out _ _ _ _ (step_stop (x := ⟨27, x1, x2, x3, x4, x5⟩) rfl)
        go_wp2_with fail
        ((try simp only [Exit.inBlock, Exit.then]); refine bodyPost_ret (results_tmp5 rfl _ _ _) rfl ?_)
        refine HPost.out _ _ s.mem 2 (k + 1) (by first | exact hst | rw [hst, htch]) HFt.out.ml ?_ HB3.out
        have := HMc3.out.m
        rwa [HFt.out.ml] at this
end Go.Proofs.Ytjfpaelmcepidaa.PK
