/- Packed of several texts. -/
import Derived.Test.YtpdbokbmchlgpaaGreatH37
import Derived.Test.YtpdbokbmchlgpaaGreatH38
import Derived.Deep.OwnRows
namespace Go.Proofs.YtpdbokbmchlgpaaGreat.PK
open Go.RowKit

theorem infoByte : (Tryz.prog.info? 5).map (fun i => (i.zero, i.size, i.bytes)) = some (some (.int .u8 0), 1, 1) := by kernel_rfl
theorem bytes_made (w : World) (n : Nat) (hn : n ≤ maxLen) : (w.alloc (.cells (madeCells #[.int .u8 0] n) 5)).ownsRow w.heap.size 5 1 (.slice (some ⟨w.heap.size, 0, none⟩) n n) n (encB (List.replicate n 0)) := by
  have e : (madeCells #[.int .u8 0] n) = (encB (List.replicate n 0)).toArray := by
    rw [valArr_made]
    unfold encB valArr
    apply Array.ext
    · simp
    · intro i h1 h2; simp
  refine ⟨by rw [encB_len, List.length_replicate, Nat.mul_one], .inr ⟨w.heap.size, n, _, rfl, Nat.le_refl _, heap_alloc_new w _, Nat.le_refl _, hn, ?_, ?_⟩⟩
  · rw [e]; simp [encB]
  · rw [e, List.take_of_length_le (by simp [encB])]
/-- A memory with the first k Args. -/
def memW (l : List Int) : Nat → List Int
  | 0 => List.replicate 32768 0
  | k + 1 => wrF (memW l k) (272 + 4 * k) 4 (l.getD k 0)
/-- A memory with the first t bytes of a slot. -/
def memR (row : List Int) (base : Nat) (m : List Int) : Nat → List Int
  | 0 => m
  | t + 1 => (memR row base m t).set (base + t) (max (row.getD t 0) 0)
/-- A memory with all Args and the first s slots. -/
def memS (l : List Int) (ls : List (List Int)) : Nat → List Int
  | 0 => memW l l.length
  | s + 1 => memR (ls.getD s []) (512 + 256 * s) (memS l ls s) (ls.getD s []).length
theorem memW_succ (l : List Int) (k : Nat) : memW l (k + 1) = wrF (memW l k) (272 + 4 * k) 4 (l.getD k 0) := rfl
theorem memR_succ (row : List Int) (base : Nat) (m : List Int) (t : Nat) : memR row base m (t + 1) = (memR row base m t).set (base + t) (max (row.getD t 0) 0) := rfl
theorem memS_succ (l : List Int) (ls : List (List Int)) (s : Nat) : memS l ls (s + 1) = memR (ls.getD s []) (512 + 256 * s) (memS l ls s) (ls.getD s []).length := rfl
theorem memW_len (l : List Int) : ∀ k, (memW l k).length = 32768
  | 0 => List.length_replicate
  | k + 1 => by show (wrD _ _ _ 4).length = _; rw [wrD_len, memW_len l k]
theorem memR_len (row : List Int) (base : Nat) (m : List Int) : ∀ t, (memR row base m t).length = m.length
  | 0 => rfl
  | t + 1 => by show (List.set _ _ _).length = _; rw [List.length_set, memR_len row base m t]
theorem memS_len (l : List Int) (ls : List (List Int)) : ∀ s, (memS l ls s).length = 32768
  | 0 => memW_len _ _
  | s + 1 => by show (memR _ _ _ _).length = _; rw [memR_len, memS_len l ls s]
/-- The memory of a function and an input. -/
noncomputable def memF (F : Fun) (l : List Int) (ls : List (List Int)) : List Int := if inE F l ls = 0 then memS l ls ls.length else []
/-- What Memory answers. -/
def MemPost (F : Fun) (l : List Int) (ls : List (List Int)) (w : World) (e : Ending) (w' : World) : Prop :=
  ∃ a c, e = .returned (.tuple #[.slice a (memF F l ls).length c, .int .i64 (inE F l ls)]) ∧ BIn w' a (memF F l ls) ∧ Below w.heap.size w w'
theorem slotAt_any (s : Nat) (w : World) (hs : s ≤ 1000) : Calls Tryz.prog 25 #[.int .i64 s] w fun e w' => e = .returned (.int .i64 ((512 + 256 * s : Nat) : Int)) ∧ w' = w := by
  have hn : (s : Int) ≤ 1000 := by omega
  go_enter Tryz.func25, Tryz.ntmps25
  go_wp2_with fail
  go_ret
  exact ⟨by congr 2, rfl⟩
set_option maxRecDepth 100000 in
set_option maxHeartbeats 2000000 in
theorem Memory_pick_any (F : Fun) (A : FunA) (l : List Int) (ls : List (List Int)) (a b : Option Addr) (c e : Nat) (w : World) (hin : FunIn w F A) (hok : FunOk F) (hl : WsIn w a l) (hls : RowsIn w b ls) (hw : ∀ k, k < l.length → isW (l.getD k 0)) (hsm : InSm l ls) :
    Calls Tryz.prog 9 #[funV F A, inV l ls a b c e] w (MemPost F l ls w) := by
  obtain ⟨pa, pc, sa, sc, ba, bc⟩ := A
  have hal : Below w.heap.size w ((w.alloc (.cells #[.slice pa F.ps.length pc, .int .i64 F.ret, .slice sa F.sl.length sc, .slice ba F.bs.length bc] 25)).alloc (.cells #[.slice a l.length c, .slice b ls.length e] 29)) := ((Below.refl _ _).alloc (Nat.le_refl _) _).alloc (by simp) _
  have HI := Lib.hid (hin.below hal); have HL := Lib.hid (hl.below hal); have HLs := Lib.hid (hls.below hal)
  have hr1 : ((w.alloc (.cells #[.slice pa F.ps.length pc, .int .i64 F.ret, .slice sa F.sl.length sc, .slice ba F.bs.length bc] 25)).alloc (.cells #[.slice a l.length c, .slice b ls.length e] 29)).heap[w.heap.size + 1]? = some ((.cells #[.slice a l.length c, .slice b ls.length e] 29) : Obj) := by
    have := heap_alloc_new (w.alloc (.cells #[.slice pa F.ps.length pc, .int .i64 F.ret, .slice sa F.sl.length sc, .slice ba F.bs.length bc] 25)) (.cells #[.slice a l.length c, .slice b ls.length e] 29)
    simpa using this
  have hr0 : ((w.alloc (.cells #[.slice pa F.ps.length pc, .int .i64 F.ret, .slice sa F.sl.length sc, .slice ba F.bs.length bc] 25)).alloc (.cells #[.slice a l.length c, .slice b ls.length e] 29)).heap[w.heap.size]? = some ((.cells #[.slice pa F.ps.length pc, .int .i64 F.ret, .slice sa F.sl.length sc, .slice ba F.bs.length bc] 25) : Obj) := by
    rw [Below.heap_alloc _ _ _ (by simp)]
    exact heap_alloc_new _ _
  have HB0 := Lib.hid hal
  have g0 := cell_of_row _ _ 0 _ _ _ hr0; have g1 := cell_of_row _ _ 1 _ _ _ hr0; have g2 := cell_of_row _ _ 2 _ _ _ hr0; have g3 := cell_of_row _ _ 3 _ _ _ hr0
  have i0 := cell_of_row _ _ 0 _ _ _ hr1; have i1 := cell_of_row _ _ 1 _ _ _ hr1
  have HI0 := Lib.hid i0; have HI1 := Lib.hid i1
  have HVa := Lib.hid (fun u (h : FunIn u F ⟨pa, pc, sa, sc, ba, bc⟩) (h2 : WsIn u a l) (h3 : RowsIn u b ls) => ValidateInput_any F ⟨pa, pc, sa, sc, ba, bc⟩ l ls a b c e u h hok h2 h3 hw hsm)
  have HNo : Hid (∀ n W', n ≠ 0 → inE F l ls = n → Below w.heap.size w W' → MemPost F l ls w (.returned (.tuple #[.slice none 0 0, .int .i64 n])) W') := Lib.hid fun n W' h0 h1 h2 => by
    have hm : memF F l ls = [] := by unfold memF; rw [if_neg (by rw [h1]; exact h0)]
    refine ⟨none, 0, ?_, ?_, h2⟩
    · rw [hm, h1]; rfl
    · rw [hm]; exact fun k hk => absurd hk (Nat.not_lt_zero _)
  have HYes : Hid (∀ g c W', inE F l ls = 0 → W'.ownsRow w.heap.size 5 1 (.slice (some ⟨g, 0, none⟩) 32768 c) 32768 (encB (memS l ls ls.length)) → Below w.heap.size w W' → MemPost F l ls w (.returned (.tuple #[.slice (some ⟨g, 0, none⟩) 32768 c, .int .i64 0])) W') := Lib.hid fun g c W' h1 h2 h3 => by
    have hm : memF F l ls = memS l ls ls.length := by unfold memF; rw [if_pos h1]
    refine ⟨some ⟨g, 0, none⟩, c, ?_, ?_, h3⟩
    · rw [hm, memS_len, h1]
    · rw [hm]; exact bin_owns h2
  have hn1 := hsm.ar; have hn2 := hsm.me
  have HW := Lib.hid hw
  have HRy : Hid (inE F l ls = 0 → ∀ s, s < ls.length → (ls.getD s []).length ≤ 8 ∧ ∀ t, t < (ls.getD s []).length → -1 ≤ (ls.getD s []).getD t 0 ∧ (ls.getD s []).getD t 0 ≤ 255) := Lib.hid fun h s hs => by
    obtain ⟨h0, h1, h2, h3, h4⟩ := inE_zero h
    obtain ⟨h5, h6⟩ := h4 s (by omega)
    have h8 := (head_slot (errF_good h0).head (show s < F.sl.length by omega)).2
    refine ⟨by omega, fun t ht => ?_⟩
    have := List.all_eq_true.1 h6 _ (getDm ht)
    unfold byB at this
    exact of_decide_eq_true this
  have HLe : Hid (inE F l ls = 0 → l.length ≤ 3 ∧ ls.length ≤ 2) := Lib.hid fun h => by
    obtain ⟨h0, h1, h2, _⟩ := inE_zero h
    have := lrg_parts (errF_good h0).lrg
    omega
  have hmk := run_make_row' (P := Tryz.prog) 33 5 (.int .u8 0) 1 Tryz.underlying33 infoByte rfl .i64 .i64 32768 (by omega) (by omega)
  rw [show ((32768 : Nat) : Int) = 32768 from rfl] at hmk
  have HMl := Lib.hid (fun k => memW_len l k)
  have HMsl := Lib.hid (fun s => memS_len l ls s)
  have HPut := Lib.hid (fun (mem : List Int) (B g cap at0 many : Nat) (v : Int) u ho hl hat h4 hv => put_any mem B g cap at0 many v u ho hl hat h4 hv)
  generalize hPP : MemPost F l ls w = PP at *
  clear hPP
  generalize hR : inE F l ls = R at *
  clear hR hin hal hr0 hr1 hok hl hls hw hsm
  simp only [funV, funC, inV] at HVa ⊢
  generalize hnl : l.length = nl at *
  have HNl := Lib.hid hnl; clear hnl
  generalize hnm : ls.length = nm at *
  have HNm := Lib.hid hnm; clear hnm
  go_enter Tryz.func9, Tryz.ntmps9
  go_upto_region 1 with fail
  generalize ((w.alloc _).alloc _) = w1 at *
  have HV1 := Lib.hid (HVa.out w1 HI.out HL.out HLs.out)
  go_wp2_with fail
  refine HV1.out.mono ?_; rintro e w2 ⟨rfl, hb2⟩
  have HBw := Lib.hid (HB0.out.trans (hb2.mono HB0.out.size))
  have HL2 := Lib.hid (HL.out.below hb2); have HLs2 := Lib.hid (HLs.out.below hb2)
  have j0 := keep HI0.out hb2; have j1 := keep HI1.out hb2
  have HJ0 := Lib.hid j0; have HJ1 := Lib.hid j1
  clear hb2 g0 g1 g2 g3 i0 i1
  by_cases h0 : R = 0
  rotate_left
  · have HE := Lib.hid (HNo.out R w2 h0 rfl HBw.out)
    have q : (R != 0) = true := bne_iff_ne.2 h0
    clear h0
    go_wp2_with fail
    first | exact HE.out | (go_ret2; exact HE.out)
  subst h0
  have HRz := Lib.hid (HRy.out rfl)
  obtain ⟨hn3, hm3⟩ := HLe.out rfl
  have q0 : ((0 : Int) != 0) = false := rfl
  have HM0 := Lib.hid (bytes_made w2 32768 (by unfold maxLen; omega))
  have hal2 := (Below.refl w2.heap.size w2).alloc (Nat.le_refl _) (.cells (madeCells #[.int .u8 0] 32768) 5)
  have HAl2 := Lib.hid hal2
  have hsz : (w2.alloc (.cells (madeCells #[.int .u8 0] 32768) 5)).heap.size = w2.heap.size + 1 := by simp
  have HSz := Lib.hid hsz
  have k0 := keep HJ0.out hal2
  clear HRy HLe HNo hal2 hsz
  go_upto_region 5 with fail
  clear hmk j0 j1 q0
  generalize w2.alloc (.cells (madeCells #[.int .u8 0] 32768) 5) = w3 at *
  generalize hq : w2.heap.size = q at *
  have HQ := Lib.hid hq; clear hq
  go_wp2_with fail
  clear k0
  have HWq : Hid (w.heap.size ≤ q) := Lib.hid (by rw [← HQ.out]; exact HBw.out.size)
  have HKp : Hid (∀ wr, Save q w3 wr → Below q w2 wr) := Lib.hid fun wr hs => HAl2.out.trans (hs.below (B := q) (Nat.le_refl _) (by rw [HSz.out]; omega))
  go_loopw [24] (fun i wr => ∃ k : Nat, k ≤ nl ∧ i = .int .i64 k ∧ wr.ownsRow q 5 1 (.slice (some ⟨q, 0, none⟩) 32768 32768) 32768 (encB (memW l k)) ∧ Save q w3 wr) (fun i _ => nl - (intOf i).toNat)
  case atStart => exact ⟨0, Nat.zero_le _, rfl, HM0.out, Save.refl _ _⟩
  case round =>
    obtain ⟨k, hk, rfl, ho, hs⟩ := hrel
    have HO := Lib.hid ho; have HS := Lib.hid hs
    have hbw := HKp.out wr hs
    have HBr := Lib.hid hbw
    clear ho hs
    by_cases hlt : k < nl
    · have hki : (k : Int) < (nl : Int) := by omega
      obtain ⟨b2, o2, ha2, c2⟩ := HL2.out.below (by rw [HQ.out]; exact hbw) k (by rw [HNl.out]; exact hlt)
      obtain rfl : a = _ := ha2
      have HP : Hid (Calls Tryz.prog 24 #[.slice (some ⟨q, 0, none⟩) 32768 32768, .int .i64 (272 + 4 * (k : Int)), .int .i64 4, .int .u32 (l.getD k 0)] wr fun e w' => e = .returned (.tuple #[]) ∧ w'.ownsRow q 5 1 (.slice (some ⟨q, 0, none⟩) 32768 32768) 32768 (encB (memW l (k + 1))) ∧ Save q wr w') := Lib.hid (by
        have := HPut.out (memW l k) q q 32768 (272 + 4 * k) 4 (l.getD k 0) wr (by rw [HMl.out]; exact HO.out) (by rw [HMl.out]; omega) (by rw [HMl.out]; omega) (by omega) (HW.out k hlt)
        rw [HMl.out, show ((272 + 4 * k : Nat) : Int) = 272 + 4 * (k : Int) by omega, show ((4 : Nat) : Int) = 4 from rfl] at this
        rw [memW_succ]; exact this)
      clear hbw
      generalize l.getD k 0 = x at *
      go_wp2_with fail
      refine HP.out.mono ?_; rintro e w4 ⟨rfl, ho4, hs4⟩
      have HO4 := Lib.hid ho4; have HS4 := Lib.hid (HS.out.trans hs4)
      clear ho4 hs4 c2
      go_wp2_with fail
      go_roundw
      case rel => exact ⟨k + 1, by omega, by go_num, HO4.out, HS4.out⟩
      case measure => simp [intOf]; omega
    obtain rfl : k = nl := by omega
    have HS0 : Hid (memS l ls 0 = memW l k) := Lib.hid (by show memW l l.length = _; rw [HNl.out])
    have j1 := keep HJ1.out (by rw [HQ.out]; exact hbw)
    clear hbw hk
    go_wp2_with fail
    clear j1
    go_loopw [39] (fun i wr => ∃ s : Nat, s ≤ nm ∧ i = .int .i64 s ∧ wr.ownsRow q 5 1 (.slice (some ⟨q, 0, none⟩) 32768 32768) 32768 (encB (memS l ls s)) ∧ Save q w3 wr) (fun i _ => nm - (intOf i).toNat)
    case atStart => exact ⟨0, Nat.zero_le _, rfl, by rw [HS0.out]; exact HO.out, HS.out⟩
    case round =>
      obtain ⟨s, hs, rfl, ho, hsv⟩ := hrel
      have HOs := Lib.hid ho; have HSs := Lib.hid hsv
      have hbw := HKp.out wr hsv
      have HBs := Lib.hid hbw
      clear ho hsv
      by_cases hls : s < nm
      rotate_left
      · obtain rfl : s = nm := by omega
        have HE := Lib.hid (HYes.out q 32768 wr (by trivial) (owns_base HOs.out HWq.out) (HBw.out.trans (hbw.mono HWq.out)))
        clear hbw
        go_wp2_with fail
        first | exact HE.out | (go_ret2; exact HE.out)
      have hsi : (s : Int) < (nm : Int) := by omega
      obtain ⟨b2, o2, a2, c2', ha2, c2, hrow⟩ := (HLs2.out.below (by rw [HQ.out]; exact hbw)) s (by rw [HNm.out]; exact hls)
      obtain rfl : b = _ := ha2
      obtain ⟨hr8, hrz⟩ := HRz.out s hls
      have HRz2 := Lib.hid hrz
      have HRr : Hid (IntsIn w2 a2 (ls.getD s [])) := Lib.hid (by
        obtain ⟨b3, o3, a3, c3, e3, hc3, hr3⟩ := HLs2.out s (by rw [HNm.out]; exact hls)
        cases e3
        have h1 := keep hc3 (by rw [HQ.out]; exact hbw)
        rw [c2] at h1
        simp only [Option.some.injEq, Value.slice.injEq] at h1
        obtain ⟨rfl, _, _⟩ := h1
        exact hr3)
      have hns := memS_succ l ls s
      clear hbw hrow hrz
      generalize hro : ls.getD s [] = row at *
      clear hro
      generalize hrr : row.length = rr at *
      have HRl := Lib.hid hrr; clear hrr
      have HNs := Lib.hid hns; clear hns
      have HSl := Lib.hid (slotAt_any s)
      have HRtl : Hid (∀ t, (memR row (512 + 256 * s) (memS l ls s) t).length = 32768) := Lib.hid fun t => by rw [memR_len]; exact HMsl.out s
      have HR0 : Hid (memR row (512 + 256 * s) (memS l ls s) 0 = memS l ls s) := Lib.hid rfl
      go_wp2_with fail
      clear c2
      go_loopw [46] (fun i wr => ∃ t : Nat, t ≤ rr ∧ i = .int .i64 t ∧ wr.ownsRow q 5 1 (.slice (some ⟨q, 0, none⟩) 32768 32768) 32768 (encB (memR row (512 + 256 * s) (memS l ls s) t)) ∧ Save q w3 wr) (fun i _ => rr - (intOf i).toNat)
      case atStart => exact ⟨0, Nat.zero_le _, rfl, by rw [HR0.out]; exact HOs.out, HSs.out⟩
      case round =>
        obtain ⟨t, ht, rfl, ho, hsv⟩ := hrel
        by_cases htr : t < rr
        rotate_left
        · obtain rfl : t = rr := by omega
          have HO5 := Lib.hid ho; have HS5 := Lib.hid hsv
          clear ho hsv
          go_wp2_with fail
          go_roundw
          case rel => exact ⟨s + 1, by omega, by go_num, by rw [HNs.out]; exact HO5.out, HS5.out⟩
          case measure => simp [intOf]; omega
        have hti : (t : Int) < (rr : Int) := by omega
        have hbw := HKp.out wr hsv
        obtain ⟨b3, o3, rfl, c3⟩ := (HRr.out.below (by rw [HQ.out]; exact hbw)) t (by rw [HRl.out]; exact htr)
        obtain ⟨hz0, hz1⟩ := HRz2.out t htr
        obtain ⟨g', c', ev, _, _, _, _, hcs, hfz⟩ := owns_cells ho (by omega)
        simp only [Value.slice.injEq, Option.some.injEq, Addr.mk.injEq, and_true, true_and] at ev
        obtain ⟨rfl, rfl⟩ := ev
        have hlk := HRtl.out t
        have hcell := hcs (512 + 256 * s + t) _ (encB_get (by rw [hlk]; omega))
        have hfr := hfz (512 + 256 * s + t)
        have HO5 := Lib.hid ho; have HS5 := Lib.hid hsv
        have hnt := memR_succ row (512 + 256 * s) (memS l ls s) t
        clear ho hsv hcs hfz hlk hbw
        generalize (memR row (512 + 256 * s) (memS l ls s) t).getD (512 + 256 * s + t) 0 = old at *
        generalize row.getD t 0 = z at *
        obtain ⟨y, hmx⟩ : ∃ y, max z 0 = y := ⟨_, rfl⟩
        rw [hmx] at hnt
        have HNt := Lib.hid hnt; clear hnt
        have hy0 : 0 ≤ y ∧ y ≤ 255 := by omega
        obtain ⟨hy0, hy1⟩ := hy0
        have hix : ((512 : Int) + 256 * (s : Int) + (t : Int)).toNat = 512 + 256 * s + t := by omega
        have hil : (512 : Int) + 256 * (s : Int) + (t : Int) < 32768 := by omega
        have hin0 : (0 : Int) ≤ (512 : Int) + 256 * (s : Int) + (t : Int) := by omega
        have HSlu : Hid (∀ u, Calls Tryz.prog 25 #[.int .i64 s] u fun e w' => e = .returned (.int .i64 (512 + 256 * (s : Int))) ∧ w' = u) := Lib.hid fun u => by
          have := HSl.out u (by omega)
          rwa [show ((512 + 256 * s : Nat) : Int) = 512 + 256 * (s : Int) by omega] at this
        go_wp2_with fail
        refine (HSlu.out _).mono ?_; rintro e w5 ⟨rfl, rfl⟩
        go_wp2_with fail
        go_roundw
        case rel => exact ⟨t + 1, by omega, by go_num, by rw [HNt.out, encB_set]; exact owns_set HO5.out _ _, HS5.out.trans (Save.set _ _ _ _)⟩
        case measure => simp [intOf]; omega
end Go.Proofs.YtpdbokbmchlgpaaGreat.PK
