/- Packed of several texts. -/
import Derived.Test.YtpdbokbmchlgpaaGreatK38
namespace Go.Proofs.YtpdbokbmchlgpaaGreat.PK
open Go.RowKit

theorem encI_set (l : List Int) (k : Nat) (x : Int) : encI (l.set k x) = (encI l).set k (.int .i64 x) := by simp [encI]
theorem ints_made (w : World) (n : Nat) (hn : n ≤ maxLen) : (w.alloc (.cells (madeCells #[.int .i64 0] n) 3)).ownsRow w.heap.size 3 1 (.slice (some ⟨w.heap.size, 0, none⟩) n n) n (encI (List.replicate n 0)) := by
  have e : (madeCells #[.int .i64 0] n) = (encI (List.replicate n 0)).toArray := by
    rw [valArr_made]
    unfold encI valArr
    apply Array.ext
    · simp
    · intro i h1 h2; simp
  refine ⟨by rw [encI_len, List.length_replicate, Nat.mul_one], .inr ⟨w.heap.size, n, _, rfl, Nat.le_refl _, heap_alloc_new w _, Nat.le_refl _, hn, ?_, ?_⟩⟩
  · rw [e]; simp [encI]
  · rw [e, List.take_of_length_le (by simp [encI])]
/-- A row of m numbers with the first t bytes of a slot. -/
def rowU (mem : List Int) (base m : Nat) : Nat → List Int
  | 0 => List.replicate m 0
  | t + 1 => (rowU mem base m t).set t (mem.getD (base + t) 0)
theorem rowU_succ (mem : List Int) (base m t : Nat) : rowU mem base m (t + 1) = (rowU mem base m t).set t (mem.getD (base + t) 0) := rfl
theorem rowU_len (mem : List Int) (base m : Nat) : ∀ t, (rowU mem base m t).length = m
  | 0 => List.length_replicate
  | t + 1 => by rw [rowU_succ, List.length_set, rowU_len mem base m t]
theorem rowU_get (mem : List Int) (base m : Nat) : ∀ t k, k < t → k < m → (rowU mem base m t)[k]? = some (mem.getD (base + k) 0)
  | t + 1, k, h, hm => by
    rw [rowU_succ, List.getElem?_set]
    by_cases e : t = k
    · subst e; rw [if_pos rfl, if_pos (by rw [rowU_len]; exact hm)]
    · rw [if_neg e]; exact rowU_get mem base m t k (by omega) hm
theorem rowU_all (mem : List Int) (base m : Nat) : rowU mem base m m = rowT mem base m := by
  apply List.ext_getElem?
  intro k
  by_cases h : k < m
  · rw [rowU_get mem base m m k h h]; simp [rowT, h]
  · rw [List.getElem?_eq_none (by rw [rowU_len]; omega), List.getElem?_eq_none (by rw [rowT_len]; omega)]
set_option maxRecDepth 100000 in
set_option maxHeartbeats 2000000 in
theorem Says_ref_any (F : Fun) (A : FunA) (mem : List Int) (g : Nat) (w : World) (hin : FunIn w F A) (hok : FunOk F) (hm : BIn w (some ⟨g, 0, none⟩) mem) (hB : ∀ x ∈ mem, isB x) (hml : mem.length ≤ 1000000) :
    Calls Tryz.prog 12 #[funV F A, .slice (some ⟨g, 0, none⟩) mem.length mem.length] w (SayPost F mem w) := by
  obtain ⟨pa, pc, sa, sc, ba, bc⟩ := A
  have hal : Below w.heap.size w ((w.alloc (.cells #[.slice pa F.ps.length pc, .int .i64 F.ret, .slice sa F.sl.length sc, .slice ba F.bs.length bc] 25)).alloc (.cells #[.int .i64 0, .bool false, .int .i64 0, .int .u32 0, .slice none 0 0] 45)) := ((Below.refl _ _).alloc (Nat.le_refl _) _).alloc (by simp) _
  have HI := Lib.hid (hin.below hal)
  have HM := Lib.hid (hm.below hal)
  have hr1 : ((w.alloc (.cells #[.slice pa F.ps.length pc, .int .i64 F.ret, .slice sa F.sl.length sc, .slice ba F.bs.length bc] 25)).alloc (.cells #[.int .i64 0, .bool false, .int .i64 0, .int .u32 0, .slice none 0 0] 45)).heap[w.heap.size + 1]? = some ((.cells #[.int .i64 0, .bool false, .int .i64 0, .int .u32 0, .slice none 0 0] 45) : Obj) := by
    have := heap_alloc_new (w.alloc (.cells #[.slice pa F.ps.length pc, .int .i64 F.ret, .slice sa F.sl.length sc, .slice ba F.bs.length bc] 25)) (.cells #[.int .i64 0, .bool false, .int .i64 0, .int .u32 0, .slice none 0 0] 45)
    simpa using this
  have hr0 : ((w.alloc (.cells #[.slice pa F.ps.length pc, .int .i64 F.ret, .slice sa F.sl.length sc, .slice ba F.bs.length bc] 25)).alloc (.cells #[.int .i64 0, .bool false, .int .i64 0, .int .u32 0, .slice none 0 0] 45)).heap[w.heap.size]? = some ((.cells #[.slice pa F.ps.length pc, .int .i64 F.ret, .slice sa F.sl.length sc, .slice ba F.bs.length bc] 25) : Obj) := by
    rw [Below.heap_alloc _ _ _ (by simp)]
    exact heap_alloc_new _ _
  have HB0 := Lib.hid hal
  have g0 := cell_of_row _ _ 0 _ _ _ hr0; have g1 := cell_of_row _ _ 1 _ _ _ hr0; have g2 := cell_of_row _ _ 2 _ _ _ hr0; have g3 := cell_of_row _ _ 3 _ _ _ hr0
  have HG1 := Lib.hid g1; have HG2 := Lib.hid g2
  have HO1 := Lib.hid hr1
  have hsz1 : w.heap.size + 1 < ((w.alloc (.cells #[.slice pa F.ps.length pc, .int .i64 F.ret, .slice sa F.sl.length sc, .slice ba F.bs.length bc] 25)).alloc (.cells #[.int .i64 0, .bool false, .int .i64 0, .int .u32 0, .slice none 0 0] 45)).heap.size := by simp
  have HS1 := Lib.hid hsz1
  have HVa := Lib.hid (fun u (h : FunIn u F ⟨pa, pc, sa, sc, ba, bc⟩) => rValidate_any F ⟨pa, pc, sa, sc, ba, bc⟩ u h hok)
  have hZ : ∀ n W', n ≠ 0 → sayE F mem = n → Below w.heap.size w W' → SayPost F mem w (.returned (.tuple #[outV 0 (.slice none 0 0), .int .i64 n])) W' := fun n W' h0 h1 h2 => by
    have hn : ¬ sayE F mem = 0 := by rw [h1]; exact h0
    refine ⟨none, 0, ?_, ?_, h2⟩
    · unfold sayN sayL; rw [if_neg hn, if_neg hn, h1]; rfl
    · unfold sayL; rw [if_neg hn]; exact fun k hk => absurd hk (Nat.not_lt_zero _)
  have hY : ∀ a c lo hi W', sayE F mem = 0 → RowsBet W' lo hi (.slice a F.sl.length c) (slotL F mem F.sl.length) → Below w.heap.size w W' → SayPost F mem w (.returned (.tuple #[outV (retN F.ret (rdF mem 256 4)) (.slice a F.sl.length c), .int .i64 0])) W' := fun a c lo hi W' h0 h1 h2 => by
    refine ⟨a, c, ?_, ?_, h2⟩
    · unfold sayN sayL; rw [if_pos h0, if_pos h0, h0, slotL_len]
    · unfold sayL; rw [if_pos h0]; exact h1.rows rfl
  have hE1 : errF F ≠ 0 → sayE F mem = errF F := fun h => by unfold sayE; rw [if_neg h]
  have hE2 : errF F = 0 → mem.length ≠ 32768 → sayE F mem = 1 := fun h h2 => by unfold sayE; rw [if_pos h, if_neg h2]
  have hE3 : errF F = 0 → mem.length = 32768 → sayE F mem = 0 := fun h h2 => by unfold sayE; rw [if_pos h, if_pos h2]
  unfold outV at hZ hY
  have HZ := Lib.hid hZ; have HY := Lib.hid hY; have HE1 := Lib.hid hE1; have HE2 := Lib.hid hE2; have HE3 := Lib.hid hE3
  have HFa : Hid (errF F = 0 → F.sl.length ≤ 2 ∧ (0 ≤ F.ret ∧ F.ret ≤ 32) ∧ ∀ s, s < F.sl.length → 1 ≤ F.sl.getD s 0 ∧ F.sl.getD s 0 ≤ 8) := Lib.hid fun h => by
    have hg := errF_good h
    have h1 := lrg_parts hg.lrg
    have h2 := hg.head
    unfold headB at h2
    simp only [Bool.and_eq_true, decide_eq_true_eq] at h2
    exact ⟨by omega, h2.1.2, fun s hs => head_slot hg.head hs⟩
  have HRd := Lib.hid (fun (hl : mem.length = 32768) u (h : BIn u (some ⟨g, 0, none⟩) mem) => read_any mem (some ⟨g, 0, none⟩) mem.length 256 4 u h hB hml (by omega))
  have HRw := Lib.hid (rdD_w mem 256 4 4)
  have HBy := Lib.hid (fun k => getD_b hB k)
  clear hZ hY hE1 hE2 hE3 hin hal hr0 hr1 hok hm hB
  obtain ⟨j0, hj, jp0, jp1, jp2⟩ := info_parts infoRowI
  obtain ⟨i0, hi, ip0, ip1, ip2⟩ := info_parts Tryz.infoInt
  generalize hPP : SayPost F mem w = PP at *
  clear hPP
  generalize hSE : sayE F mem = SE at *
  clear hSE
  generalize hR : errF F = R at *
  clear hR
  simp only [funV, funC] at HVa ⊢
  generalize hnm : F.sl.length = nm at *
  have HNm := Lib.hid hnm; clear hnm
  generalize hret : F.ret = r at *
  clear hret
  generalize hn : mem.length = n at *
  have HN := Lib.hid hn; clear hn
  go_enter Tryz.func12, Tryz.ntmps12
  go_upto_region 1 with fail
  generalize hp4 : w.heap.size + 1 = p4 at *
  have HLe : Hid (w.heap.size ≤ p4) := Lib.hid (by omega)
  have HLt : Hid (w.heap.size < p4) := Lib.hid (by omega)
  clear hp4
  generalize ((w.alloc _).alloc _) = w1 at *
  have HV1 := Lib.hid (HVa.out w1 HI.out)
  go_wp2_with fail
  refine HV1.out.mono ?_; rintro e w2 ⟨rfl, hb2⟩
  have HBw := Lib.hid (HB0.out.trans (hb2.mono HB0.out.size))
  have HM2 := Lib.hid (HM.out.below hb2)
  have HI2 := Lib.hid (HI.out.below hb2)
  have k1 := keep HG1.out hb2; have k2 := keep HG2.out hb2
  have HK1 := Lib.hid k1; have HK2 := Lib.hid k2
  have hO2 : w2.heap[p4]? = _ := (hb2.block p4 HS1.out).trans HO1.out
  have HO2 := Lib.hid hO2
  have hS2 : p4 < w2.heap.size := lt_of_block hO2
  have HS2 := Lib.hid hS2
  clear hb2 g0 g1 g2 g3 hO2 hS2 hsz1 k1 k2
  have o0 := cell_of_row _ _ 0 _ _ _ HO2.out; have o1 := cell_of_row _ _ 1 _ _ _ HO2.out; have o2 := cell_of_row _ _ 2 _ _ _ HO2.out; have o3 := cell_of_row _ _ 3 _ _ _ HO2.out; have o4 := cell_of_row _ _ 4 _ _ _ HO2.out
  have z0 := frozen_of_row w2 p4 0 _ _ HO2.out; have z1 := frozen_of_row w2 p4 1 _ _ HO2.out; have z2 := frozen_of_row w2 p4 2 _ _ HO2.out; have z3 := frozen_of_row w2 p4 3 _ _ HO2.out; have z4 := frozen_of_row w2 p4 4 _ _ HO2.out
  by_cases h0 : R = 0
  rotate_left
  · have hE := HE1.out h0
    have q : (R != 0) = true := bne_iff_ne.2 h0
    have hX := HZ.out R (five w2 p4 0 (.slice none 0 0)) h0 hE (HBw.out.trans ((five_save w2 p4 0 _).below HLe.out HBw.out.size))
    have HX := Lib.hid hX
    clear h0 hX
    go_wp2_with fail
    ((try simp only [Exit.inBlock, Exit.then]); refine bodyPost_ret (leave_out _ rfl w2 _ rfl _ _ HO2.out) rfl ?_)
    exact HX.out
  subst h0
  by_cases h1 : n = 32768
  rotate_left
  · have hE := HE2.out rfl h1
    have q0 : ((0 : Int) != 0) = false := rfl
    have q : ((n : Int) != 32768) = true := bne_iff_ne.2 (by omega)
    have HX := Lib.hid (HZ.out 1 (five w2 p4 0 (.slice none 0 0)) (by decide) hE (HBw.out.trans ((five_save w2 p4 0 _).below HLe.out HBw.out.size)))
    clear h1
    go_wp2_with fail
    ((try simp only [Exit.inBlock, Exit.then]); refine bodyPost_ret (leave_out _ rfl w2 _ rfl _ _ HO2.out) rfl ?_)
    exact HX.out
  subst h1
  obtain ⟨hn2, ⟨hr0, hr1⟩, hsl⟩ := HFa.out rfl
  have HSl := Lib.hid hsl
  have q0 : ((0 : Int) != 0) = false := rfl
  have k1 := HK1.out; have k2 := HK2.out
  clear hsl o0 o1 o2 o3 o4 z0 z1 z2 z3 z4
  go_upto_region 7 with fail
  have hal3 := (Below.refl w2.heap.size w2).alloc (Nat.le_refl _) (.cells #[.int .i64 0, .bool false, .int .i64 0, .int .u32 0, .slice none 0 0] 45)
  have hr3 : (w2.alloc (.cells #[.int .i64 0, .bool false, .int .i64 0, .int .u32 0, .slice none 0 0] 45)).heap[w2.heap.size]? = some (.cells #[.int .i64 0, .bool false, .int .i64 0, .int .u32 0, .slice none 0 0] 45) := heap_alloc_new _ _
  have hp4p := HS2.out
  have hs3 : w2.heap.size < (w2.alloc (.cells #[.int .i64 0, .bool false, .int .i64 0, .int .u32 0, .slice none 0 0] 45)).heap.size := by simp
  generalize w2.alloc (.cells #[.int .i64 0, .bool false, .int .i64 0, .int .u32 0, .slice none 0 0] 45) = w3 at *
  generalize hp : w2.heap.size = p at *
  have HP := Lib.hid hp; clear hp
  have HAl := Lib.hid hal3; have HR3 := Lib.hid hr3; have HS3 := Lib.hid hs3; have HPP := Lib.hid hp4p
  have y3 := cell_of_row _ _ 3 _ _ _ hr3
  have z3 := frozen_of_row w3 p 3 _ _ hr3
  have x1 := keep HK1.out (by rw [HP.out]; exact hal3)
  have hrd1 := HRd.out (by trivial) w3 ((show BIn w3 _ _ from HM2.out.below (by rw [HP.out]; exact hal3)) : BIn w3 _ _)
  rw [show ((256 : Nat) : Int) = 256 from rfl, show ((4 : Nat) : Int) = 4 from rfl] at hrd1
  have HRd1 := Lib.hid hrd1
  clear hal3 hr3 hs3 hp4p k1 k2 hrd1
  obtain ⟨rv0, rv1⟩ := HRw.out
  generalize hrv : rdF mem 256 4 = rv at *
  have hrv0 : 0 ≤ rv ∧ rv < 4294967296 := by rw [← hrv]; exact ⟨rv0, rv1⟩
  clear hrv rv0 rv1
  obtain ⟨rv0, rv1⟩ := hrv0
  by_cases c0 : r = 0
  · subst c0
    have e0 : retN 0 rv = 0 := by unfold retN; simp
    rw [e0] at HY
    clear e0
    go_wp2_with fail
    have hrow := HR3.out
    have hsv := Save.refl p w3
    obtain ⟨wc, hwc⟩ : ∃ x, x = w3 := ⟨w3, rfl⟩
    subst hwc
    have hbc : Below p w2 wc := HAl.out.trans (hsv.below (Nat.le_refl _) (Nat.le_of_lt HS3.out))
    have HRow := Lib.hid hrow; have HBc := Lib.hid hbc
    clear hrow hsv hbc HRd1 x1 y3 z3
    have HBl : Hid (∀ wr, Below p wc wr → Below p w2 wr) := Lib.hid fun wr h => HBc.out.trans h
    go_loopw [9] (fun i wr => ∃ (s : Nat) (v : Value), s ≤ nm ∧ i = .int .i64 s ∧ wr.heap[p]? = some (.cells #[.int .i64 0, .bool false, .int .i64 0, .int .u32 0, v] 45 (0, 0)) ∧ RowsOwn wr (p + 1) v (slotL F mem s) ∧ Below p wc wr) (fun i _ => nm - (intOf i).toNat)
    case atStart => exact ⟨0, _, Nat.zero_le _, rfl, HRow.out, RowsOwn.nil _ _, Below.refl _ _⟩
    case round =>
      obtain ⟨s, v, hs, rfl, hrw, hro, hbl⟩ := hrel
      obtain ⟨wo, hwo⟩ : ∃ x, x = wr := ⟨wr, rfl⟩
      subst hwo
      have HRw0 := Lib.hid hrw
      have hb2r := HBl.out wo hbl
      have HBr := Lib.hid hb2r; have HBl2 := Lib.hid hbl
      have x2 := keep HK2.out (by rw [HP.out]; exact hb2r)
      by_cases hlt : s < nm
      rotate_left
      · obtain rfl : s = nm := by omega
        obtain ⟨oa, oc, rfl⟩ := hro.shape
        rw [slotL_len] at hrw hro
        have y0 := cell_of_row _ _ 0 _ _ _ hrw; have y1 := cell_of_row _ _ 1 _ _ _ hrw; have y2 := cell_of_row _ _ 2 _ _ _ hrw; have y3 := cell_of_row _ _ 3 _ _ _ hrw; have y4 := cell_of_row _ _ 4 _ _ _ hrw
        have h4 : wo.heap[p4]? = _ := (hb2r.block p4 HPP.out).trans HO2.out
        have H4 := Lib.hid h4
        have z0 := frozen_of_row wo p4 0 _ _ h4; have z1 := frozen_of_row wo p4 1 _ _ h4; have z2 := frozen_of_row wo p4 2 _ _ h4; have z3 := frozen_of_row wo p4 3 _ _ h4; have z4 := frozen_of_row wo p4 4 _ _ h4
        have o0 := cell_of_row _ _ 0 _ _ _ h4; have o1 := cell_of_row _ _ 1 _ _ _ h4; have o2 := cell_of_row _ _ 2 _ _ _ h4; have o3 := cell_of_row _ _ 3 _ _ _ h4; have o4 := cell_of_row _ _ 4 _ _ _ h4
        have hbet := hro.bet.keep (w' := five wo p4 0 (.slice oa s oc)) (fun b h1 h2 => (five_save wo p4 0 _).block b h2 (by have := HPP.out; omega))
        have HX := Lib.hid (HY.out oa oc _ _ (five wo p4 0 (.slice oa s oc)) (HE3.out (by trivial) (by trivial)) hbet ((HBw.out.trans (hb2r.mono (by rw [← HP.out]; exact HBw.out.size))).trans ((five_save wo p4 0 _).below HLe.out (Nat.le_trans HBw.out.size (by rw [HP.out]; exact Nat.le_of_lt (lt_of_block hrw))))))
        clear hbet h4 hb2r hbl hro hrw
        go_wp2_with fail
        ((try simp only [Exit.inBlock, Exit.then]); refine bodyPost_ret (leave_out _ rfl wo _ rfl _ _ H4.out) rfl ?_)
        exact HX.out
      have hsi : (s : Int) < (nm : Int) := by omega
      obtain ⟨sb, so, hsa, c2⟩ := (HI2.out.sl.below (by rw [HP.out]; exact hb2r)) s (by rw [HNm.out]; exact hlt)
      obtain rfl : sa = _ := hsa
      obtain ⟨hz0, hz1⟩ := HSl.out s hlt
      have hns := slotL_succ F mem s
      have hs2 : s ≤ 1 := by omega
      obtain ⟨oa, oc, rfl⟩ := hro.shape
      have HLs := Lib.hid (slotL_len F mem s)
      obtain ⟨vals, hov, hra⟩ := hro
      have HHv := Lib.hid (fun g e => owns_block hov (g := g) e)
      have HOv := Lib.hid hov; have HRa := Lib.hid hra
      have HPr : Hid (p < wo.heap.size) := Lib.hid (lt_of_block hrw)
      clear hrw hov hra hbl hb2r
      generalize hz : F.sl.getD s 0 = z at *
      obtain ⟨m, rfl⟩ := Int.eq_ofNat_of_zero_le (show 0 ≤ z by omega)
      rw [Int.toNat_natCast] at hns
      clear hz
      have HNs := Lib.hid hns; clear hns
      generalize slotL F mem s = L at *
      have hmk := run_make_row' (P := Tryz.prog) 22 3 (.int .i64 0) 8 Tryz.underlying22 Tryz.infoInt rfl .i64 .i64 m (by omega) (by omega)
      have HM0 := Lib.hid (ints_made wo m (by unfold maxLen; omega))
      have HAl5 := Lib.hid ((Below.refl wo.heap.size wo).alloc (Nat.le_refl _) (.cells (madeCells #[.int .i64 0] m) 3))
      have HS5 : Hid (wo.heap.size < (wo.alloc (.cells (madeCells #[.int .i64 0] m) 3)).heap.size) := Lib.hid (by simp)
      go_wp2_with fail
      clear hmk c2 x2
      generalize wo.alloc (.cells (madeCells #[.int .i64 0] m) 3) = w5 at *
      generalize hq : wo.heap.size = q at *
      have HQ := Lib.hid hq; clear hq
      have HF0 := Lib.hid (fun t => rowU_len mem (512 + 256 * s) m t)
      go_loopw [11] (fun i wr => ∃ t : Nat, t ≤ m ∧ i = .int .i64 t ∧ wr.ownsRow q 3 1 (.slice (some ⟨q, 0, none⟩) m m) m (encI (rowU mem (512 + 256 * s) m t)) ∧ Save q w5 wr) (fun i _ => m - (intOf i).toNat)
      case atStart => exact ⟨0, Nat.zero_le _, rfl, HM0.out, Save.refl _ _⟩
      case round =>
        obtain ⟨t, ht, rfl, ho, hsq⟩ := hrel
        have hbq : Below q wo wr := HAl5.out.trans (hsq.below (Nat.le_refl _) (Nat.le_of_lt HS5.out))
        have hb2q : Below p w2 wr := HBr.out.trans (hbq.mono (Nat.le_of_lt HPr.out))
        by_cases htm : t < m
        · have hti : (t : Int) < (m : Int) := by omega
          obtain ⟨b3, o3, e3, hc3⟩ := (HM2.out.below (by rw [HP.out]; exact hb2q)) (512 + 256 * s + t) (by rw [HN.out]; omega)
          cases e3
          rw [Nat.zero_add] at hc3
          obtain ⟨hx0, hx1⟩ := HBy.out (512 + 256 * s + t)
          obtain ⟨g', c', ev, _, _, _, _, hcs, hfz⟩ := owns_cells ho (by omega)
          simp only [Value.slice.injEq, Option.some.injEq, Addr.mk.injEq, and_true, true_and] at ev
          obtain ⟨rfl, rfl⟩ := ev
          have hcell := hcs t _ (encI_get (by rw [HF0.out]; omega))
          have hfr := hfz t
          have HE := Lib.hid (rowU_succ mem (512 + 256 * s) m t)
          have HO2 := Lib.hid ho; have HS2q := Lib.hid hsq
          clear ho hbq hb2q hsq hcs hfz
          generalize mem.getD (512 + 256 * s + t) 0 = x at *
          generalize (rowU mem (512 + 256 * s) m t).getD t 0 = old at *
          have hix : ((512 : Int) + 256 * (s : Int) + (t : Int)).toNat = 512 + 256 * s + t := by omega
          have hil : (512 : Int) + 256 * (s : Int) + (t : Int) < 32768 := by omega
          have hin0 : (0 : Int) ≤ (512 : Int) + 256 * (s : Int) + (t : Int) := by omega
          go_wp2_with fail
          go_roundw
          case rel => exact ⟨t + 1, by omega, by go_num, by rw [HE.out, encI_set]; exact owns_set HO2.out _ _, HS2q.out.trans (Save.set _ _ _ _)⟩
          case measure => simp [intOf]; omega
        obtain rfl : t = m := by omega
        rw [rowU_all] at ho
        have HFl := Lib.hid (rowT_len mem (512 + 256 * s) t)
        rw [← HQ.out] at hbq
        have hra := HRa.out.below hbq
        have HOv2 := Lib.hid (owns_below HOv.out hbq)
        have HRa2 := Lib.hid hra
        have hrw2 : wr.heap[p]? = _ := (hbq.block p (by rw [HQ.out]; exact HPr.out)).trans HRw0.out
        have y4 := cell_of_row _ _ 4 _ _ _ hrw2
        have HRw2 := Lib.hid hrw2
        have HO5 := Lib.hid ho
        have HO6 := Lib.hid ((owns_below HOv.out hbq).alloc (.cells #[.slice (some ⟨q, 0, none⟩) t t] 22))
        have HS63 : Hid (L.length + 1 ≤ maxLen) := Lib.hid (by have := HLs.out; unfold maxLen; omega)
        have HSb : Hid ((L.length + 1) * 24 ≤ 140737488355328) := Lib.hid (by have := HLs.out; omega)
        have HPw : Hid (p < wr.heap.size) := Lib.hid (Nat.lt_of_lt_of_le (by rw [HQ.out]; exact HPr.out) hbq.size)
        have HZ6 : Hid (p + 1 ≤ (wr.alloc (.cells #[.slice (some ⟨q, 0, none⟩) t t] 22)).heap.size) := Lib.hid (by have := HPw.out; simp; omega)
        have HBa : Hid (Below p wc (wr.alloc (.cells #[.slice (some ⟨q, 0, none⟩) t t] 22))) := Lib.hid ((HBl2.out.trans (hbq.mono (by rw [HQ.out]; exact Nat.le_of_lt HPr.out))).alloc (Nat.le_of_lt HPw.out) _)
        clear ho hbq hb2q hsq hra hrw2
        go_wp2_with (at_builtin; refine wpList_append_own_at _ rfl _ _ 27 rfl (p + 1) 22 j0 (.slice none 0 0) 1 24 Tryz.underlying27 hj jp0 jp1 jp2 rfl (by decide) _ _ _ rfl HO6.out ⟨wr.heap.size, 0, none⟩ 1 1 [.slice (some ⟨q, 0, none⟩) t t] rfl rfl (cell_one_at _ _ _) (by simp [Value.oneCell']) HS63.out HSb.out HZ6.out ?_; intro v9 w9 hown9 hgrow9 _ hat9; obtain ⟨v9a, v9c, rfl⟩ := owns_shape hown9; have hp9 : w9.heap[p]? = some (.cells #[.int .i64 0, .bool false, .int .i64 0, .int .u32 0, .slice oa L.length oc] 45 (0, 0)) := (hgrow9.block p (by have := HZ6.out; omega) (fun e => by have := (HHv.out _ e.symm).1; omega)).trans ((heap_past _ _ _ HPw.out).trans HRw2.out); have y9 := cell_of_row _ _ 4 _ _ _ hp9; have z9 := frozen_of_row w9 p 4 _ _ hp9; have HP9 := Lib.hid hp9; have HO9 := Lib.hid hown9; have HG9 := Lib.hid hgrow9; have HA9 := Lib.hid hat9; clear hown9 hgrow9 hat9 hp9)
        have hrn := RowsOwn.snoc_own (wr := wo) (va := some ⟨q, 0, none⟩) (vc := t) (f := rowT mem (512 + 256 * s) t) HOv2.out HRa2.out (fun g hg => by rw [HQ.out]; exact (HHv.out g hg).2) (by rw [HQ.out]; exact Nat.succ_le_of_lt HPr.out) (by rw [HFl.out, HQ.out]; exact HO5.out) (by rw [HFl.out]; exact HO9.out) HG9.out HA9.out
        have hbn := HBa.out.grown HG9.out (Nat.le_trans (Nat.le_succ p) HZ6.out) (fun g hg => Nat.le_trans (Nat.le_succ p) (HHv.out g hg).1)
        have HRn := Lib.hid (hrn.keepLo (w' := w9.setCell ⟨p, 4, none⟩ (.slice v9a (L.length + 1) v9c)) (fun b h1 _ => Below.heap_setCell _ _ _ _ (by show b ≠ p; omega)) (by simp [World.setCell]))
        have HBn := Lib.hid (hbn.setCell (p := ⟨p, 4, none⟩) (Nat.le_refl p) (.slice v9a (L.length + 1) v9c))
        clear hrn hbn
        go_roundw
        case rel => exact ⟨s + 1, _, by omega, by go_num, heap_setCell_same w9 p 4 _ _ _ HP9.out, by rw [HNs.out]; exact HRn.out, HBn.out⟩
        case measure => simp [intOf]; omega
  by_cases c1 : r < 32
  rotate_left
  · obtain rfl : r = 32 := by omega
    have e0 : retN 32 rv = rv := by unfold retN; simp
    rw [e0] at HY
    clear e0
    go_wp2_with fail
    refine HRd1.out.mono ?_; rintro e w5 ⟨rfl, rfl⟩
    go_wp2_with fail
    have hrow : (w3.setCell ⟨p, 3, none⟩ (.int .u32 rv)).heap[p]? = some (.cells #[.int .i64 0, .bool false, .int .i64 0, .int .u32 rv, .slice none 0 0] 45 (0, 0)) := heap_setCell_same _ p 3 _ _ _ HR3.out
    have hsv : Save p w3 (w3.setCell ⟨p, 3, none⟩ (.int .u32 rv)) := Save.set p 3 w3 _
    generalize w3.setCell ⟨p, 3, none⟩ (.int .u32 rv) = wc at *
    have hbc : Below p w2 wc := HAl.out.trans (hsv.below (Nat.le_refl _) (Nat.le_of_lt HS3.out))
    have HRow := Lib.hid hrow; have HBc := Lib.hid hbc
    clear hrow hsv hbc HRd1 x1 y3 z3
    have HBl : Hid (∀ wr, Below p wc wr → Below p w2 wr) := Lib.hid fun wr h => HBc.out.trans h
    go_loopw [9] (fun i wr => ∃ (s : Nat) (v : Value), s ≤ nm ∧ i = .int .i64 s ∧ wr.heap[p]? = some (.cells #[.int .i64 0, .bool false, .int .i64 0, .int .u32 rv, v] 45 (0, 0)) ∧ RowsOwn wr (p + 1) v (slotL F mem s) ∧ Below p wc wr) (fun i _ => nm - (intOf i).toNat)
    case atStart => exact ⟨0, _, Nat.zero_le _, rfl, HRow.out, RowsOwn.nil _ _, Below.refl _ _⟩
    case round =>
      obtain ⟨s, v, hs, rfl, hrw, hro, hbl⟩ := hrel
      obtain ⟨wo, hwo⟩ : ∃ x, x = wr := ⟨wr, rfl⟩
      subst hwo
      have HRw0 := Lib.hid hrw
      have hb2r := HBl.out wo hbl
      have HBr := Lib.hid hb2r; have HBl2 := Lib.hid hbl
      have x2 := keep HK2.out (by rw [HP.out]; exact hb2r)
      by_cases hlt : s < nm
      rotate_left
      · obtain rfl : s = nm := by omega
        obtain ⟨oa, oc, rfl⟩ := hro.shape
        rw [slotL_len] at hrw hro
        have y0 := cell_of_row _ _ 0 _ _ _ hrw; have y1 := cell_of_row _ _ 1 _ _ _ hrw; have y2 := cell_of_row _ _ 2 _ _ _ hrw; have y3 := cell_of_row _ _ 3 _ _ _ hrw; have y4 := cell_of_row _ _ 4 _ _ _ hrw
        have h4 : wo.heap[p4]? = _ := (hb2r.block p4 HPP.out).trans HO2.out
        have H4 := Lib.hid h4
        have z0 := frozen_of_row wo p4 0 _ _ h4; have z1 := frozen_of_row wo p4 1 _ _ h4; have z2 := frozen_of_row wo p4 2 _ _ h4; have z3 := frozen_of_row wo p4 3 _ _ h4; have z4 := frozen_of_row wo p4 4 _ _ h4
        have o0 := cell_of_row _ _ 0 _ _ _ h4; have o1 := cell_of_row _ _ 1 _ _ _ h4; have o2 := cell_of_row _ _ 2 _ _ _ h4; have o3 := cell_of_row _ _ 3 _ _ _ h4; have o4 := cell_of_row _ _ 4 _ _ _ h4
        have hbet := hro.bet.keep (w' := five wo p4 rv (.slice oa s oc)) (fun b h1 h2 => (five_save wo p4 rv _).block b h2 (by have := HPP.out; omega))
        have HX := Lib.hid (HY.out oa oc _ _ (five wo p4 rv (.slice oa s oc)) (HE3.out (by trivial) (by trivial)) hbet ((HBw.out.trans (hb2r.mono (by rw [← HP.out]; exact HBw.out.size))).trans ((five_save wo p4 rv _).below HLe.out (Nat.le_trans HBw.out.size (by rw [HP.out]; exact Nat.le_of_lt (lt_of_block hrw))))))
        clear hbet h4 hb2r hbl hro hrw
        go_wp2_with fail
        ((try simp only [Exit.inBlock, Exit.then]); refine bodyPost_ret (leave_out _ rfl wo _ rfl _ _ H4.out) rfl ?_)
        exact HX.out
      have hsi : (s : Int) < (nm : Int) := by omega
      obtain ⟨sb, so, hsa, c2⟩ := (HI2.out.sl.below (by rw [HP.out]; exact hb2r)) s (by rw [HNm.out]; exact hlt)
      obtain rfl : sa = _ := hsa
      obtain ⟨hz0, hz1⟩ := HSl.out s hlt
      have hns := slotL_succ F mem s
      have hs2 : s ≤ 1 := by omega
      obtain ⟨oa, oc, rfl⟩ := hro.shape
      have HLs := Lib.hid (slotL_len F mem s)
      obtain ⟨vals, hov, hra⟩ := hro
      have HHv := Lib.hid (fun g e => owns_block hov (g := g) e)
      have HOv := Lib.hid hov; have HRa := Lib.hid hra
      have HPr : Hid (p < wo.heap.size) := Lib.hid (lt_of_block hrw)
      clear hrw hov hra hbl hb2r
      generalize hz : F.sl.getD s 0 = z at *
      obtain ⟨m, rfl⟩ := Int.eq_ofNat_of_zero_le (show 0 ≤ z by omega)
      rw [Int.toNat_natCast] at hns
      clear hz
      have HNs := Lib.hid hns; clear hns
      generalize slotL F mem s = L at *
      have hmk := run_make_row' (P := Tryz.prog) 22 3 (.int .i64 0) 8 Tryz.underlying22 Tryz.infoInt rfl .i64 .i64 m (by omega) (by omega)
      have HM0 := Lib.hid (ints_made wo m (by unfold maxLen; omega))
      have HAl5 := Lib.hid ((Below.refl wo.heap.size wo).alloc (Nat.le_refl _) (.cells (madeCells #[.int .i64 0] m) 3))
      have HS5 : Hid (wo.heap.size < (wo.alloc (.cells (madeCells #[.int .i64 0] m) 3)).heap.size) := Lib.hid (by simp)
      go_wp2_with fail
      clear hmk c2 x2
      generalize wo.alloc (.cells (madeCells #[.int .i64 0] m) 3) = w5 at *
      generalize hq : wo.heap.size = q at *
      have HQ := Lib.hid hq; clear hq
      have HF0 := Lib.hid (fun t => rowU_len mem (512 + 256 * s) m t)
      go_loopw [11] (fun i wr => ∃ t : Nat, t ≤ m ∧ i = .int .i64 t ∧ wr.ownsRow q 3 1 (.slice (some ⟨q, 0, none⟩) m m) m (encI (rowU mem (512 + 256 * s) m t)) ∧ Save q w5 wr) (fun i _ => m - (intOf i).toNat)
      case atStart => exact ⟨0, Nat.zero_le _, rfl, HM0.out, Save.refl _ _⟩
      case round =>
        obtain ⟨t, ht, rfl, ho, hsq⟩ := hrel
        have hbq : Below q wo wr := HAl5.out.trans (hsq.below (Nat.le_refl _) (Nat.le_of_lt HS5.out))
        have hb2q : Below p w2 wr := HBr.out.trans (hbq.mono (Nat.le_of_lt HPr.out))
        by_cases htm : t < m
        · have hti : (t : Int) < (m : Int) := by omega
          obtain ⟨b3, o3, e3, hc3⟩ := (HM2.out.below (by rw [HP.out]; exact hb2q)) (512 + 256 * s + t) (by rw [HN.out]; omega)
          cases e3
          rw [Nat.zero_add] at hc3
          obtain ⟨hx0, hx1⟩ := HBy.out (512 + 256 * s + t)
          obtain ⟨g', c', ev, _, _, _, _, hcs, hfz⟩ := owns_cells ho (by omega)
          simp only [Value.slice.injEq, Option.some.injEq, Addr.mk.injEq, and_true, true_and] at ev
          obtain ⟨rfl, rfl⟩ := ev
          have hcell := hcs t _ (encI_get (by rw [HF0.out]; omega))
          have hfr := hfz t
          have HE := Lib.hid (rowU_succ mem (512 + 256 * s) m t)
          have HO2 := Lib.hid ho; have HS2q := Lib.hid hsq
          clear ho hbq hb2q hsq hcs hfz
          generalize mem.getD (512 + 256 * s + t) 0 = x at *
          generalize (rowU mem (512 + 256 * s) m t).getD t 0 = old at *
          have hix : ((512 : Int) + 256 * (s : Int) + (t : Int)).toNat = 512 + 256 * s + t := by omega
          have hil : (512 : Int) + 256 * (s : Int) + (t : Int) < 32768 := by omega
          have hin0 : (0 : Int) ≤ (512 : Int) + 256 * (s : Int) + (t : Int) := by omega
          go_wp2_with fail
          go_roundw
          case rel => exact ⟨t + 1, by omega, by go_num, by rw [HE.out, encI_set]; exact owns_set HO2.out _ _, HS2q.out.trans (Save.set _ _ _ _)⟩
          case measure => simp [intOf]; omega
        obtain rfl : t = m := by omega
        rw [rowU_all] at ho
        have HFl := Lib.hid (rowT_len mem (512 + 256 * s) t)
        rw [← HQ.out] at hbq
        have hra := HRa.out.below hbq
        have HOv2 := Lib.hid (owns_below HOv.out hbq)
        have HRa2 := Lib.hid hra
        have hrw2 : wr.heap[p]? = _ := (hbq.block p (by rw [HQ.out]; exact HPr.out)).trans HRw0.out
        have y4 := cell_of_row _ _ 4 _ _ _ hrw2
        have HRw2 := Lib.hid hrw2
        have HO5 := Lib.hid ho
        have HO6 := Lib.hid ((owns_below HOv.out hbq).alloc (.cells #[.slice (some ⟨q, 0, none⟩) t t] 22))
        have HS63 : Hid (L.length + 1 ≤ maxLen) := Lib.hid (by have := HLs.out; unfold maxLen; omega)
        have HSb : Hid ((L.length + 1) * 24 ≤ 140737488355328) := Lib.hid (by have := HLs.out; omega)
        have HPw : Hid (p < wr.heap.size) := Lib.hid (Nat.lt_of_lt_of_le (by rw [HQ.out]; exact HPr.out) hbq.size)
        have HZ6 : Hid (p + 1 ≤ (wr.alloc (.cells #[.slice (some ⟨q, 0, none⟩) t t] 22)).heap.size) := Lib.hid (by have := HPw.out; simp; omega)
        have HBa : Hid (Below p wc (wr.alloc (.cells #[.slice (some ⟨q, 0, none⟩) t t] 22))) := Lib.hid ((HBl2.out.trans (hbq.mono (by rw [HQ.out]; exact Nat.le_of_lt HPr.out))).alloc (Nat.le_of_lt HPw.out) _)
        clear ho hbq hb2q hsq hra hrw2
        go_wp2_with (at_builtin; refine wpList_append_own_at _ rfl _ _ 27 rfl (p + 1) 22 j0 (.slice none 0 0) 1 24 Tryz.underlying27 hj jp0 jp1 jp2 rfl (by decide) _ _ _ rfl HO6.out ⟨wr.heap.size, 0, none⟩ 1 1 [.slice (some ⟨q, 0, none⟩) t t] rfl rfl (cell_one_at _ _ _) (by simp [Value.oneCell']) HS63.out HSb.out HZ6.out ?_; intro v9 w9 hown9 hgrow9 _ hat9; obtain ⟨v9a, v9c, rfl⟩ := owns_shape hown9; have hp9 : w9.heap[p]? = some (.cells #[.int .i64 0, .bool false, .int .i64 0, .int .u32 rv, .slice oa L.length oc] 45 (0, 0)) := (hgrow9.block p (by have := HZ6.out; omega) (fun e => by have := (HHv.out _ e.symm).1; omega)).trans ((heap_past _ _ _ HPw.out).trans HRw2.out); have y9 := cell_of_row _ _ 4 _ _ _ hp9; have z9 := frozen_of_row w9 p 4 _ _ hp9; have HP9 := Lib.hid hp9; have HO9 := Lib.hid hown9; have HG9 := Lib.hid hgrow9; have HA9 := Lib.hid hat9; clear hown9 hgrow9 hat9 hp9)
        have hrn := RowsOwn.snoc_own (wr := wo) (va := some ⟨q, 0, none⟩) (vc := t) (f := rowT mem (512 + 256 * s) t) HOv2.out HRa2.out (fun g hg => by rw [HQ.out]; exact (HHv.out g hg).2) (by rw [HQ.out]; exact Nat.succ_le_of_lt HPr.out) (by rw [HFl.out, HQ.out]; exact HO5.out) (by rw [HFl.out]; exact HO9.out) HG9.out HA9.out
        have hbn := HBa.out.grown HG9.out (Nat.le_trans (Nat.le_succ p) HZ6.out) (fun g hg => Nat.le_trans (Nat.le_succ p) (HHv.out g hg).1)
        have HRn := Lib.hid (hrn.keepLo (w' := w9.setCell ⟨p, 4, none⟩ (.slice v9a (L.length + 1) v9c)) (fun b h1 _ => Below.heap_setCell _ _ _ _ (by show b ≠ p; omega)) (by simp [World.setCell]))
        have HBn := Lib.hid (hbn.setCell (p := ⟨p, 4, none⟩) (Nat.le_refl p) (.slice v9a (L.length + 1) v9c))
        clear hrn hbn
        go_roundw
        case rel => exact ⟨s + 1, _, by omega, by go_num, heap_setCell_same w9 p 4 _ _ _ HP9.out, by rw [HNs.out]; exact HRn.out, HBn.out⟩
        case measure => simp [intOf]; omega
  · have c2 : 0 < r := by omega
    obtain ⟨j, rfl⟩ := Int.eq_ofNat_of_zero_le hr0
    have hq : 0 < (2 : Nat) ^ j := Nat.pow_pos (by decide)
    have hp2 : (2 : Nat) ^ j < 2 ^ 32 := Nat.pow_lt_pow_right (by decide) (by omega)
    have e1 : ((2 : Int) ^ j) = ((2 ^ j : Nat) : Int) := by simp
    have e0 : retN j rv = rv % ((2 : Int) ^ j % 4294967296) := by unfold retN; rw [if_pos c1, Int.toNat_natCast, e1]; congr 1; generalize 2 ^ j = m at *; omega
    have hnz : ¬ ((2 : Int) ^ j % 4294967296 = 0) := by rw [e1]; generalize 2 ^ j = m at *; omega
    rw [e0] at HY
    clear e0 e1 hq hp2
    go_wp2_with fail
    refine HRd1.out.mono ?_; rintro e w5 ⟨rfl, rfl⟩
    go_wp2_with fail
    have hrow : (w3.setCell ⟨p, 3, none⟩ (.int .u32 (rv % ((2 : Int) ^ j % 4294967296)))).heap[p]? = some (.cells #[.int .i64 0, .bool false, .int .i64 0, .int .u32 (rv % ((2 : Int) ^ j % 4294967296)), .slice none 0 0] 45 (0, 0)) := heap_setCell_same _ p 3 _ _ _ HR3.out
    have hsv : Save p w3 (w3.setCell ⟨p, 3, none⟩ (.int .u32 (rv % ((2 : Int) ^ j % 4294967296)))) := Save.set p 3 w3 _
    generalize w3.setCell ⟨p, 3, none⟩ (.int .u32 (rv % ((2 : Int) ^ j % 4294967296))) = wc at *
    generalize rv % ((2 : Int) ^ j % 4294967296) = NN at *
    generalize (2 : Int) ^ j % 4294967296 = X2 at *
    have hbc : Below p w2 wc := HAl.out.trans (hsv.below (Nat.le_refl _) (Nat.le_of_lt HS3.out))
    have HRow := Lib.hid hrow; have HBc := Lib.hid hbc
    clear hrow hsv hbc HRd1 x1 y3 z3
    have HBl : Hid (∀ wr, Below p wc wr → Below p w2 wr) := Lib.hid fun wr h => HBc.out.trans h
    go_loopw [9] (fun i wr => ∃ (s : Nat) (v : Value), s ≤ nm ∧ i = .int .i64 s ∧ wr.heap[p]? = some (.cells #[.int .i64 0, .bool false, .int .i64 0, .int .u32 NN, v] 45 (0, 0)) ∧ RowsOwn wr (p + 1) v (slotL F mem s) ∧ Below p wc wr) (fun i _ => nm - (intOf i).toNat)
    case atStart => exact ⟨0, _, Nat.zero_le _, rfl, HRow.out, RowsOwn.nil _ _, Below.refl _ _⟩
    case round =>
      obtain ⟨s, v, hs, rfl, hrw, hro, hbl⟩ := hrel
      obtain ⟨wo, hwo⟩ : ∃ x, x = wr := ⟨wr, rfl⟩
      subst hwo
      have HRw0 := Lib.hid hrw
      have hb2r := HBl.out wo hbl
      have HBr := Lib.hid hb2r; have HBl2 := Lib.hid hbl
      have x2 := keep HK2.out (by rw [HP.out]; exact hb2r)
      by_cases hlt : s < nm
      rotate_left
      · obtain rfl : s = nm := by omega
        obtain ⟨oa, oc, rfl⟩ := hro.shape
        rw [slotL_len] at hrw hro
        have y0 := cell_of_row _ _ 0 _ _ _ hrw; have y1 := cell_of_row _ _ 1 _ _ _ hrw; have y2 := cell_of_row _ _ 2 _ _ _ hrw; have y3 := cell_of_row _ _ 3 _ _ _ hrw; have y4 := cell_of_row _ _ 4 _ _ _ hrw
        have h4 : wo.heap[p4]? = _ := (hb2r.block p4 HPP.out).trans HO2.out
        have H4 := Lib.hid h4
        have z0 := frozen_of_row wo p4 0 _ _ h4; have z1 := frozen_of_row wo p4 1 _ _ h4; have z2 := frozen_of_row wo p4 2 _ _ h4; have z3 := frozen_of_row wo p4 3 _ _ h4; have z4 := frozen_of_row wo p4 4 _ _ h4
        have o0 := cell_of_row _ _ 0 _ _ _ h4; have o1 := cell_of_row _ _ 1 _ _ _ h4; have o2 := cell_of_row _ _ 2 _ _ _ h4; have o3 := cell_of_row _ _ 3 _ _ _ h4; have o4 := cell_of_row _ _ 4 _ _ _ h4
        have hbet := hro.bet.keep (w' := five wo p4 NN (.slice oa s oc)) (fun b h1 h2 => (five_save wo p4 NN _).block b h2 (by have := HPP.out; omega))
        have HX := Lib.hid (HY.out oa oc _ _ (five wo p4 NN (.slice oa s oc)) (HE3.out (by trivial) (by trivial)) hbet ((HBw.out.trans (hb2r.mono (by rw [← HP.out]; exact HBw.out.size))).trans ((five_save wo p4 NN _).below HLe.out (Nat.le_trans HBw.out.size (by rw [HP.out]; exact Nat.le_of_lt (lt_of_block hrw))))))
        clear hbet h4 hb2r hbl hro hrw
        go_wp2_with fail
        ((try simp only [Exit.inBlock, Exit.then]); refine bodyPost_ret (leave_out _ rfl wo _ rfl _ _ H4.out) rfl ?_)
        exact HX.out
      have hsi : (s : Int) < (nm : Int) := by omega
      obtain ⟨sb, so, hsa, c2⟩ := (HI2.out.sl.below (by rw [HP.out]; exact hb2r)) s (by rw [HNm.out]; exact hlt)
      obtain rfl : sa = _ := hsa
      obtain ⟨hz0, hz1⟩ := HSl.out s hlt
      have hns := slotL_succ F mem s
      have hs2 : s ≤ 1 := by omega
      obtain ⟨oa, oc, rfl⟩ := hro.shape
      have HLs := Lib.hid (slotL_len F mem s)
      obtain ⟨vals, hov, hra⟩ := hro
      have HHv := Lib.hid (fun g e => owns_block hov (g := g) e)
      have HOv := Lib.hid hov; have HRa := Lib.hid hra
      have HPr : Hid (p < wo.heap.size) := Lib.hid (lt_of_block hrw)
      clear hrw hov hra hbl hb2r
      generalize hz : F.sl.getD s 0 = z at *
      obtain ⟨m, rfl⟩ := Int.eq_ofNat_of_zero_le (show 0 ≤ z by omega)
      rw [Int.toNat_natCast] at hns
      clear hz
      have HNs := Lib.hid hns; clear hns
      generalize slotL F mem s = L at *
      have hmk := run_make_row' (P := Tryz.prog) 22 3 (.int .i64 0) 8 Tryz.underlying22 Tryz.infoInt rfl .i64 .i64 m (by omega) (by omega)
      have HM0 := Lib.hid (ints_made wo m (by unfold maxLen; omega))
      have HAl5 := Lib.hid ((Below.refl wo.heap.size wo).alloc (Nat.le_refl _) (.cells (madeCells #[.int .i64 0] m) 3))
      have HS5 : Hid (wo.heap.size < (wo.alloc (.cells (madeCells #[.int .i64 0] m) 3)).heap.size) := Lib.hid (by simp)
      go_wp2_with fail
      clear hmk c2 x2
      generalize wo.alloc (.cells (madeCells #[.int .i64 0] m) 3) = w5 at *
      generalize hq : wo.heap.size = q at *
      have HQ := Lib.hid hq; clear hq
      have HF0 := Lib.hid (fun t => rowU_len mem (512 + 256 * s) m t)
      go_loopw [11] (fun i wr => ∃ t : Nat, t ≤ m ∧ i = .int .i64 t ∧ wr.ownsRow q 3 1 (.slice (some ⟨q, 0, none⟩) m m) m (encI (rowU mem (512 + 256 * s) m t)) ∧ Save q w5 wr) (fun i _ => m - (intOf i).toNat)
      case atStart => exact ⟨0, Nat.zero_le _, rfl, HM0.out, Save.refl _ _⟩
      case round =>
        obtain ⟨t, ht, rfl, ho, hsq⟩ := hrel
        have hbq : Below q wo wr := HAl5.out.trans (hsq.below (Nat.le_refl _) (Nat.le_of_lt HS5.out))
        have hb2q : Below p w2 wr := HBr.out.trans (hbq.mono (Nat.le_of_lt HPr.out))
        by_cases htm : t < m
        · have hti : (t : Int) < (m : Int) := by omega
          obtain ⟨b3, o3, e3, hc3⟩ := (HM2.out.below (by rw [HP.out]; exact hb2q)) (512 + 256 * s + t) (by rw [HN.out]; omega)
          cases e3
          rw [Nat.zero_add] at hc3
          obtain ⟨hx0, hx1⟩ := HBy.out (512 + 256 * s + t)
          obtain ⟨g', c', ev, _, _, _, _, hcs, hfz⟩ := owns_cells ho (by omega)
          simp only [Value.slice.injEq, Option.some.injEq, Addr.mk.injEq, and_true, true_and] at ev
          obtain ⟨rfl, rfl⟩ := ev
          have hcell := hcs t _ (encI_get (by rw [HF0.out]; omega))
          have hfr := hfz t
          have HE := Lib.hid (rowU_succ mem (512 + 256 * s) m t)
          have HO2 := Lib.hid ho; have HS2q := Lib.hid hsq
          clear ho hbq hb2q hsq hcs hfz
          generalize mem.getD (512 + 256 * s + t) 0 = x at *
          generalize (rowU mem (512 + 256 * s) m t).getD t 0 = old at *
          have hix : ((512 : Int) + 256 * (s : Int) + (t : Int)).toNat = 512 + 256 * s + t := by omega
          have hil : (512 : Int) + 256 * (s : Int) + (t : Int) < 32768 := by omega
          have hin0 : (0 : Int) ≤ (512 : Int) + 256 * (s : Int) + (t : Int) := by omega
          go_wp2_with fail
          go_roundw
          case rel => exact ⟨t + 1, by omega, by go_num, by rw [HE.out, encI_set]; exact owns_set HO2.out _ _, HS2q.out.trans (Save.set _ _ _ _)⟩
          case measure => simp [intOf]; omega
        obtain rfl : t = m := by omega
        rw [rowU_all] at ho
        have HFl := Lib.hid (rowT_len mem (512 + 256 * s) t)
        rw [← HQ.out] at hbq
        have hra := HRa.out.below hbq
        have HOv2 := Lib.hid (owns_below HOv.out hbq)
        have HRa2 := Lib.hid hra
        have hrw2 : wr.heap[p]? = _ := (hbq.block p (by rw [HQ.out]; exact HPr.out)).trans HRw0.out
        have y4 := cell_of_row _ _ 4 _ _ _ hrw2
        have HRw2 := Lib.hid hrw2
        have HO5 := Lib.hid ho
        have HO6 := Lib.hid ((owns_below HOv.out hbq).alloc (.cells #[.slice (some ⟨q, 0, none⟩) t t] 22))
        have HS63 : Hid (L.length + 1 ≤ maxLen) := Lib.hid (by have := HLs.out; unfold maxLen; omega)
        have HSb : Hid ((L.length + 1) * 24 ≤ 140737488355328) := Lib.hid (by have := HLs.out; omega)
        have HPw : Hid (p < wr.heap.size) := Lib.hid (Nat.lt_of_lt_of_le (by rw [HQ.out]; exact HPr.out) hbq.size)
        have HZ6 : Hid (p + 1 ≤ (wr.alloc (.cells #[.slice (some ⟨q, 0, none⟩) t t] 22)).heap.size) := Lib.hid (by have := HPw.out; simp; omega)
        have HBa : Hid (Below p wc (wr.alloc (.cells #[.slice (some ⟨q, 0, none⟩) t t] 22))) := Lib.hid ((HBl2.out.trans (hbq.mono (by rw [HQ.out]; exact Nat.le_of_lt HPr.out))).alloc (Nat.le_of_lt HPw.out) _)
        clear ho hbq hb2q hsq hra hrw2
        go_wp2_with (at_builtin; refine wpList_append_own_at _ rfl _ _ 27 rfl (p + 1) 22 j0 (.slice none 0 0) 1 24 Tryz.underlying27 hj jp0 jp1 jp2 rfl (by decide) _ _ _ rfl HO6.out ⟨wr.heap.size, 0, none⟩ 1 1 [.slice (some ⟨q, 0, none⟩) t t] rfl rfl (cell_one_at _ _ _) (by simp [Value.oneCell']) HS63.out HSb.out HZ6.out ?_; intro v9 w9 hown9 hgrow9 _ hat9; obtain ⟨v9a, v9c, rfl⟩ := owns_shape hown9; have hp9 : w9.heap[p]? = some (.cells #[.int .i64 0, .bool false, .int .i64 0, .int .u32 NN, .slice oa L.length oc] 45 (0, 0)) := (hgrow9.block p (by have := HZ6.out; omega) (fun e => by have := (HHv.out _ e.symm).1; omega)).trans ((heap_past _ _ _ HPw.out).trans HRw2.out); have y9 := cell_of_row _ _ 4 _ _ _ hp9; have z9 := frozen_of_row w9 p 4 _ _ hp9; have HP9 := Lib.hid hp9; have HO9 := Lib.hid hown9; have HG9 := Lib.hid hgrow9; have HA9 := Lib.hid hat9; clear hown9 hgrow9 hat9 hp9)
        have hrn := RowsOwn.snoc_own (wr := wo) (va := some ⟨q, 0, none⟩) (vc := t) (f := rowT mem (512 + 256 * s) t) HOv2.out HRa2.out (fun g hg => by rw [HQ.out]; exact (HHv.out g hg).2) (by rw [HQ.out]; exact Nat.succ_le_of_lt HPr.out) (by rw [HFl.out, HQ.out]; exact HO5.out) (by rw [HFl.out]; exact HO9.out) HG9.out HA9.out
        have hbn := HBa.out.grown HG9.out (Nat.le_trans (Nat.le_succ p) HZ6.out) (fun g hg => Nat.le_trans (Nat.le_succ p) (HHv.out g hg).1)
        have HRn := Lib.hid (hrn.keepLo (w' := w9.setCell ⟨p, 4, none⟩ (.slice v9a (L.length + 1) v9c)) (fun b h1 _ => Below.heap_setCell _ _ _ _ (by show b ≠ p; omega)) (by simp [World.setCell]))
        have HBn := Lib.hid (hbn.setCell (p := ⟨p, 4, none⟩) (Nat.le_refl p) (.slice v9a (L.length + 1) v9c))
        clear hrn hbn
        go_roundw
        case rel => exact ⟨s + 1, _, by omega, by go_num, heap_setCell_same w9 p 4 _ _ _ HP9.out, by rw [HNs.out]; exact HRn.out, HBn.out⟩
        case measure => simp [intOf]; omega
end Go.Proofs.YtpdbokbmchlgpaaGreat.PK
