/- The walks of both sides' Execute; an argument []byte. -/
import Derived.Test.YtoldgjieplblpaaGreatQA
import Derived.Test.YtoldgjieplblpaaGreatMS
import Derived.Test.YtoldgjieplblpaaGreatNO
import Derived.Test.YtoldgjieplblpaaGreatMC
namespace Go.Proofs.YtoldgjieplblpaaGreat.PK
open Go.RowKit

theorem nil_no (w : World) (n c : Nat) (ad : Addr) : (binOp .eql 25 (.slice (some ad) n c) (.slice none 0 0)).run Tryz.prog w = .ok (.bool false) w :=
  Go.Lib.run_eql_slice_nil w 25 5 (some ad) n c 0 0 Tryz.underlying25
/-- What a copy of bytes is. -/
def ClonePost (mem : List Int) (w : World) (e : Ending) (w' : World) : Prop :=
  (∃ g cap, e = .returned (.slice (some ⟨g, 0, none⟩) mem.length cap) ∧ w'.ownsRow w.heap.size 5 1 (.slice (some ⟨g, 0, none⟩) mem.length cap) mem.length (encB mem)) ∧ Below w.heap.size w w'
set_option maxRecDepth 100000 in
set_option maxHeartbeats 2000000 in
theorem clone_any (mem : List Int) (ad : Addr) (mcap : Nat) (w : World) (hm : BIn w (some ad) mem) (hml : mem.length ≤ 40000) :
    Calls Tryz.prog 39 #[.slice (some ad) mem.length mcap] w (ClonePost mem w) := by
  obtain ⟨i0, hi, ip0, ip1, ip2⟩ := info_parts infoU8
  have HMw := Lib.hid (fun j u => news_src (hm.below ((Below.refl w.heap.size w).alloc (Nat.le_refl _) (.cells #[] 5))) j u)
  have HE1 := Lib.hid (owns_empty w w.heap.size (Nat.le_refl _) 5)
  have HEn := Lib.hid (encB_len mem)
  have HBE := Lib.hid ((Below.refl w.heap.size w).alloc (Nat.le_refl _) (.cells #[] 5))
  have HS63 : Hid (0 + mem.length ≤ maxLen) := Lib.hid (by unfold maxLen; omega)
  have HSb : Hid ((0 + mem.length) * 1 ≤ 140737488355328) := Lib.hid (by omega)
  have HNl : Hid ((encB mem).length = mem.length * 1) := Lib.hid (by rw [HEn.out, Nat.mul_one])
  have hcmp : (binOp .eql 25 (.slice (some ad) mem.length mcap) (.slice none 0 0)).run Tryz.prog w = .ok (.bool false) w := nil_no w mem.length mcap ad
  clear hm
  unfold ClonePost
  generalize mem.length = n at *
  go_enter Tryz.func39, Tryz.ntmps39
  go_wp2_with (first | (at_builtin; refine wpList_append_own_at _ rfl _ _ 25 rfl w.heap.size 5 i0 (.int .u8 0) 1 1 Tryz.underlying25 hi ip0 ip1 ip2 rfl (by decide) _ _ _ rfl HE1.out ad n mcap (encB mem) rfl HNl.out HMw.out (one_b _) HS63.out HSb.out HBE.out.size ?_; intro v9 w9 hown9 hgrow9 hnil9 hat9; have HN9 : Hid (¬ v9 = .slice none 0 0) := Lib.hid (fun e => by have := (hnil9.1 e).1; cases this); have HB9 := Lib.hid (HBE.out.grown hgrow9 HBE.out.size (fun k hk => Nat.le_of_eq (Option.some.inj hk))); have HO9 := Lib.hid hown9; clear hown9 hgrow9 hat9 hnil9))
  rw [Nat.zero_add, List.nil_append] at HO9
  obtain ⟨g, mc, rfl, hBg, hgs⟩ := owns_some HO9.out HN9.out
  go_wp2_with fail
  go_ret
  exact ⟨⟨g, mc, rfl, HO9.out⟩, HB9.out⟩
end Go.Proofs.YtoldgjieplblpaaGreat.PK
namespace Go.Proofs.YtoldgjieplblpaaGreat.PK
open Go.RowKit

theorem results_tmp4 {fn : Func} {t u v x : Tmp} (h : fn.results = #[.tmp t, .tmp u, .tmp v, .tmp x]) (tmps : Array Value) (P : Program) (w : World) :
    (results fn tmps).run P w = .ok (.tuple #[tmps.getD t undef, tmps.getD u undef, tmps.getD v undef, tmps.getD x undef]) w := by
  simp [results, h]
/-- How pick's run answers: its memory in new cells. -/
def ExecPost (r : List Int × Int × Nat × Bool) (w : World) (e : Ending) (w' : World) : Prop :=
  (∃ g cap, e = .returned (.tuple #[.slice (some ⟨g, 0, none⟩) r.1.length cap, .int .i64 r.2.1, .int .i64 r.2.2.1, .int .i64 0]) ∧ w'.ownsRow w.heap.size 5 1 (.slice (some ⟨g, 0, none⟩) r.1.length cap) r.1.length (encB r.1)) ∧ Below w.heap.size w w'
theorem held_x {q p : Nat} {regs : Int} {w w1 w2 : World} (h : w1.cell? ⟨p, 0, none⟩ = some (.int .i64 regs) ∧ Below q w w1 ∧ q ≤ w1.heap.size) (hb : Below w1.heap.size w1 w2) :
    w2.cell? ⟨p, 0, none⟩ = some (.int .i64 regs) ∧ Below q w w2 ∧ q ≤ w2.heap.size :=
  ⟨keep h.1 hb, h.2.1.trans (hb.mono h.2.2), Nat.le_trans h.2.2 hb.size⟩
theorem comp_new {w : World} {rq g mc B : Nat} {s : Mach} (hu : URow w rq s.rg) (hm : w.ownsRow B 5 1 (.slice (some ⟨g, 0, none⟩) s.mem.length mc) s.mem.length (encB s.mem)) (h1 : B ≤ rq) (h2 : rq ≠ g) :
    CompAt (w.alloc (.cells #[.slice (some ⟨rq, 0, none⟩) s.rg.length s.rg.length, .slice (some ⟨g, 0, none⟩) s.mem.length mc, .int .i64 s.blk, .int .i64 s.pc, .int .i64 0] 83)) w.heap.size rq g mc B s 0 := by
  have hal := (Below.refl w.heap.size w).alloc (Nat.le_refl _) (.cells #[.slice (some ⟨rq, 0, none⟩) s.rg.length s.rg.length, .slice (some ⟨g, 0, none⟩) s.mem.length mc, .int .i64 s.blk, .int .i64 s.pc, .int .i64 0] 83)
  have hg : B ≤ g ∧ g < w.heap.size := owns_block hm rfl
  have hr := hu.lt
  exact ⟨heap_at _ _ _ rfl, hu.below hal, owns_below hm hal, by omega, h1, by omega, by omega, h2⟩
theorem setup_a {w1 w5 : World} {n g mc rn : Nat} {mem : List Int} (hn : mem.length = n) (hb5 : Below (w1.alloc (.cells (madeCells #[.int .u32 0] rn) 48)).drew.heap.size (w1.alloc (.cells (madeCells #[.int .u32 0] rn) 48)).drew w5)
    (ho : w5.ownsRow (w1.alloc (.cells (madeCells #[.int .u32 0] rn) 48)).drew.heap.size 5 1 (.slice (some ⟨g, 0, none⟩) n mc) n (encB mem)) :
    CompAt (w5.alloc (.cells #[.slice (some ⟨w1.heap.size, 0, none⟩) rn rn, .slice (some ⟨g, 0, none⟩) n mc, .int .i64 0, .int .i64 0, .int .i64 0] 83)) w5.heap.size w1.heap.size g mc w1.heap.size ⟨List.replicate rn 0, mem, 0, 0, false⟩ 0 ∧ Below w1.heap.size w1 (w5.alloc (.cells #[.slice (some ⟨w1.heap.size, 0, none⟩) rn rn, .slice (some ⟨g, 0, none⟩) n mc, .int .i64 0, .int .i64 0, .int .i64 0] 83)) := by
  subst hn
  have hsz : (w1.alloc (.cells (madeCells #[.int .u32 0] rn) 48)).drew.heap.size = w1.heap.size + 1 := by show (w1.alloc _).heap.size = _; simp
  have hu : URow (w1.alloc (.cells (madeCells #[.int .u32 0] rn) 48)).drew w1.heap.size (List.replicate rn 0) := urow_made w1 rn
  have hg : w1.heap.size + 1 ≤ g ∧ g < w5.heap.size := by have := owns_block ho (g := g) rfl; rw [hsz] at this; exact this
  have hb0 : Below w1.heap.size w1 (w1.alloc (.cells (madeCells #[.int .u32 0] rn) 48)).drew := below_drew1 ((Below.refl _ _).alloc (Nat.le_refl _) _)
  have hb1 := hb0.trans (hb5.mono hb0.size)
  refine ⟨?_, hb1.trans (((Below.refl w5.heap.size w5).alloc (Nat.le_refl _) _).mono hb1.size)⟩
  have h := comp_new (s := ⟨List.replicate rn 0, mem, 0, 0, false⟩) (hu.below hb5) (owns_base ho hb0.size) (Nat.le_refl w1.heap.size) (by omega)
  have e : (List.replicate rn (0 : Int)).length = rn := List.length_replicate
  simp only [e] at h
  exact h
theorem setup_b {w1 w5 : World} {n g mc rn : Nat} {mem : List Int} (hn : mem.length = n) (hb5 : Below w1.drew.heap.size w1.drew w5) (ho : w5.ownsRow w1.drew.heap.size 5 1 (.slice (some ⟨g, 0, none⟩) n mc) n (encB mem)) :
    CompAt ((w5.alloc (.cells (madeCells #[.int .u32 0] rn) 48)).alloc (.cells #[.slice (some ⟨w5.heap.size, 0, none⟩) rn rn, .slice (some ⟨g, 0, none⟩) n mc, .int .i64 0, .int .i64 0, .int .i64 0] 83)) (w5.heap.size + 1) w5.heap.size g mc w1.heap.size ⟨List.replicate rn 0, mem, 0, 0, false⟩ 0 ∧ Below w1.heap.size w1 ((w5.alloc (.cells (madeCells #[.int .u32 0] rn) 48)).alloc (.cells #[.slice (some ⟨w5.heap.size, 0, none⟩) rn rn, .slice (some ⟨g, 0, none⟩) n mc, .int .i64 0, .int .i64 0, .int .i64 0] 83)) := by
  subst hn
  have hsz : (w5.alloc (.cells (madeCells #[.int .u32 0] rn) 48)).heap.size = w5.heap.size + 1 := by simp
  have hu := urow_made w5 rn
  have hg : w1.drew.heap.size ≤ g ∧ g < w5.heap.size := owns_block ho rfl
  have hb0 : Below w1.heap.size w1 w1.drew := below_drew1 (Below.refl _ _)
  have hb1 := hb0.trans (hb5.mono hb0.size)
  have hal := (Below.refl w5.heap.size w5).alloc (Nat.le_refl _) (.cells (madeCells #[.int .u32 0] rn) 48)
  have hb2 := hb1.trans (hal.mono hb1.size)
  refine ⟨?_, hb2.trans (((Below.refl _ _).alloc (Nat.le_refl _) _).mono hb2.size)⟩
  have h := comp_new (s := ⟨List.replicate rn 0, mem, 0, 0, false⟩) hu (owns_below (owns_base ho hb0.size) hal) hb1.size (by omega)
  have e : (List.replicate rn (0 : Int)).length = rn := List.length_replicate
  simp only [e, hsz] at h
  exact h
/-- How a loop's round stands. -/
def ExecRel (regs : Int) (ls : List (List Cd)) (ml most c rq g mc B : Nat) (RES : List Int × Int × Nat × Bool) (W0 : World) (nv : Value) (wr : World) : Prop :=
  ∃ (s : Mach) (k : Nat) (e : Int), nv = .int .i64 k ∧ k ≤ most ∧ CompAt wr c rq g mc B s e ∧ Below B W0 wr ∧ s.mem.length = ml ∧
    ((e = 0 ∧ FitM regs ls ml s ∧ s.tch = false ∧ runM ls 0 0 (most - k) s k = RES) ∨ (e ≠ 0 ∧ RES = (s.mem, e, k, false)))
def endOf (wr : World) (c : Nat) : Nat := match wr.cell? ⟨c, 4, none⟩ with
  | some v => if intOf v = 0 then 1 else 0
  | none => 0
theorem endOf_at {wr : World} {c rq g mc B : Nat} {s : Mach} {e : Int} (h : CompAt wr c rq g mc B s e) : endOf wr c = if e = 0 then 1 else 0 := by
  unfold endOf; rw [h.c4]; rfl
set_option maxRecDepth 100000 in
set_option maxHeartbeats 8000000 in
theorem Execute_ok (regs : Int) (ls : List (List Cd)) (bl : Option Addr) (cap : Nat) (mem : List Int) (ad : Addr) (mcap most : Nat) (w : World) (hin : BlkIn w bl ls) (hv : progErrW regs ls = 0) (hlm : ∀ k, k < ls.length → (atB ls k).length ≤ 9223372036854775807) (hm : BIn w (some ad) mem) (hmb : ∀ x ∈ mem, isB x) (hml : mem.length ≤ 32768) (hmo : most ≤ 200000) (him : ∀ k i, k < ls.length → i < (atB ls k).length → (atC (atB ls k) i).im < 4294967296) :
    Calls Tryz.prog 12 #[.agg #[.int .i64 regs, .slice bl ls.length cap], .slice (some ad) mem.length mcap, .int .i64 most] w (ExecPost (runM ls 0 0 most ⟨List.replicate regs.toNat 0, mem, 0, 0, false⟩ 0) w) := by
  obtain ⟨hbig, hcode, hlast⟩ := prog_partsW hv
  have hb2 : 0 ≤ regs ∧ regs ≤ 200 ∧ 1 ≤ ls.length ∧ ls.length ≤ 400 := by unfold tooBigW at hbig; omega
  obtain ⟨hr0, hr1, hn0, hn1⟩ := hb2
  have HFit : Hid (FitM regs ls mem.length ⟨List.replicate regs.toNat 0, mem, 0, 0, false⟩) := Lib.hid ⟨by simp; omega, fun x hx => by rw [List.mem_replicate] at hx; rw [hx.2]; exact zero_w, rfl, hmb, hn0, (hlast 0 hn0).1⟩
  have HV := Lib.hid (fun u (h : BlkIn u bl ls) => (by have h1 := ValidateW_any regs ls bl cap u h (by omega) hlm; rw [hv] at h1; exact h1 : Calls Tryz.prog 29 #[.agg #[.int .i64 regs, .slice bl ls.length cap]] u fun e w' => e = .returned (.int .i64 0) ∧ Below u.heap.size u w'))
  have HI := Lib.hid hin; have HMm := Lib.hid hm
  have HIm := Lib.hid him
  have HLen := Lib.hid hlm
  have HPv := Lib.hid hv
  have HCl := Lib.hid (fun u h => clone_any mem ad mcap u h (by omega))
  clear hin hv hm hmb hbig hcode hlast him hlm
  have hmk := run_make_row' (P := Tryz.prog) 36 48 (.int .u32 0) 4 Tryz.underlying36 infoU32 rfl .i64 .i64 regs.toNat (by omega) (by omega)
  have hrn : ((regs.toNat : Nat) : Int) = regs := by omega
  rw [hrn] at hmk
  have HUr := Lib.hid (fun w => urow_made w regs.toNat)
  unfold ClonePost at HCl
  have q1 : ¬ ((32768 : Int) < (mem.length : Int)) := by omega
  have q2 : ¬ ((most : Int) < 0) := by omega
  have q3 : ¬ ((200000 : Int) < (most : Int)) := by omega
  generalize hres : runM ls 0 0 most ⟨List.replicate regs.toNat 0, mem, 0, 0, false⟩ 0 = RES at *
  have HRes := Lib.hid hres; clear hres
  generalize hmn : mem.length = n at *
  have HMn := Lib.hid hmn; clear hmn
  go_enter Tryz.func12, Tryz.ntmps12
  go_upto_region 1 with (fail)
  have HB0 : Hid (Below w.heap.size w (w.alloc (.cells #[.int .i64 regs, .slice bl ls.length cap] 24))) := Lib.hid ((Below.refl _ _).alloc (Nat.le_refl _) _)
  have hp0 : (w.alloc (.cells #[.int .i64 regs, .slice bl ls.length cap] 24)).cell? ⟨w.heap.size, 0, none⟩ = some (.int .i64 regs) := by simp [go_sem]
  have hp1 : (w.alloc (.cells #[.int .i64 regs, .slice bl ls.length cap] 24)).cell? ⟨w.heap.size, 1, none⟩ = some (.slice bl ls.length cap) := by simp [go_sem]
  generalize w.alloc (.cells #[.int .i64 regs, .slice bl ls.length cap] 24) = w0 at *
  generalize hpq : w.heap.size = pq at hp0 hp1
  have hpq2 : pq < w0.heap.size := block_lt_of_cell hp0
  subst hpq
  go_wp2_with fail
  refine (HV.out _ (HI.out.below HB0.out)).mono ?_; rintro e w1 ⟨rfl, hb1⟩
  have HB1 := Lib.hid (HB0.out.trans (hb1.mono HB0.out.size))
  have HP0 := Lib.hid (keep hp0 hb1); have HP1 := Lib.hid (keep hp1 hb1)
  have hp0 := keep hp0 hb1
  have HI1 := Lib.hid (HI.out.below HB1.out)
  have HM1 := Lib.hid (HMm.out.below HB1.out)
  clear hb1 hp1 HB0 HI HMm HV
  go_upto_region 6 with (fail)
  go_cut [11] from 29 to 36 (fun cv wx => ∃ c rq g mc, cv = .pointer (some ⟨c, 0, none⟩) ∧ CompAt wx c rq g mc w1.heap.size ⟨List.replicate regs.toNat 0, mem, 0, 0, false⟩ 0 ∧ Below w1.heap.size w1 wx)
  case first =>
    obtain ⟨q1, hq1⟩ : ∃ q, w1.heap.size = q := ⟨_, rfl⟩
    have hS : w1.cell? ⟨w.heap.size, 0, none⟩ = some (.int .i64 regs) ∧ Below q1 w1 w1 ∧ q1 ≤ w1.heap.size := by subst hq1; exact ⟨HP0.out, Below.refl _ _, Nat.le_refl _⟩
    go_region_held3 (fun w' => w'.cell? ⟨w.heap.size, 0, none⟩ = some (.int .i64 regs) ∧ Below q1 w1 w' ∧ q1 ≤ w'.heap.size)
      (first | exact hS | exact held_x hS (below_drew1 (Below.refl _ _)) | exact held_x (by assumption) (by assumption) | exact held_x (by assumption) ((Below.refl _ _).alloc (Nat.le_refl _) _))
      (first | (go_at_call 39; refine (HCl.out _ (by first | exact HM1.out | exact HM1.out.below (by rw [hq1]; exact (And.left (And.right ‹_ ∧ Below q1 w1 _ ∧ q1 ≤ _›))))).mono ?_; rintro e w5 ⟨⟨g, mc, rfl, hown⟩, hb5⟩))
    · have hs := setup_a HMn.out hb5 hown
      rw [hq1] at hs
      go_wp2_with fail
      go_meet
      case rel => exact ⟨_, _, g, mc, rfl, by rw [hq1]; exact hs.1, by rw [hq1]; exact hs.2⟩
    · have hs := setup_b (rn := regs.toNat) HMn.out hb5 hown
      go_wp2_with fail
      go_meet
      case rel => exact ⟨_, _, g, mc, rfl, hs.1, hs.2⟩
  case rest =>
    obtain ⟨c, rq, g, mc, rfl, hc0, hb0⟩ := hcut
    have HC0 := Lib.hid hc0; have HB0 := Lib.hid hb0
    clear hc0 hb0 hp0 HCl hmk HUr
    generalize wc = w2 at *
    go_wp2_with fail
    go_loopw [12] (fun nv wr => ExecRel regs ls n most c rq g mc w1.heap.size RES w1 nv wr) (fun nv wr => 2 * (most - (intOf nv).toNat) + endOf wr c)
    case atStart => exact ⟨_, 0, 0, rfl, Nat.zero_le _, HC0.out, HB0.out, HMn.out, .inl ⟨rfl, HFit.out, rfl, HRes.out⟩⟩
    case round =>
      obtain ⟨s, k, e, rfl, hk, hc, hb, hsl, hcase⟩ := hrel
      have p1 := keep HP1.out hb
      have HC := Lib.hid hc; have HB := Lib.hid hb
      have d1 := hc.c1; have d2 := hc.c2; have d3 := hc.c3; have d4 := hc.c4; have f4 := hc.free 4
      have HFin : Hid (∀ (e : Int) (k : Nat) (wx : World), RES = (s.mem, e, k, false) → CompAt wx c rq g mc w1.heap.size s e → Below w1.heap.size w1 wx → ExecPost RES w (.returned (.tuple #[.slice (some ⟨g, 0, none⟩) n mc, .int .i64 e, .int .i64 k, .int .i64 0])) wx) := Lib.hid (fun e k wx hr hcx hbx => by
        subst hr
        rw [← hsl]
        exact ⟨⟨g, mc, rfl, owns_base hcx.m HB1.out.size⟩, HB1.out.trans (hbx.mono HB1.out.size)⟩)
      clear hc hb HC0 HB0 HFit HRes
      rcases hcase with ⟨rfl, hfit, htch, hrun⟩ | ⟨hne, hr⟩
      rotate_left
      · have hq : (e == 0) = false := by simp; omega
        have HR := Lib.hid hr
        clear hr
        go_wp2_with fail
        go_quiet (fail)
        go_wp2_with fail
        ((try simp only [Exit.inBlock, Exit.then]); refine bodyPost_ret (results_tmp4 rfl _ _ _) rfl ?_)
        exact HFin.out e k (wr.drewN nq) HR.out ⟨HC.out.blk, HC.out.u, HC.out.m, HC.out.far⟩ (below_drewN HB.out nq)
      by_cases hlt : k < most
      rotate_left
      · obtain rfl : k = most := by omega
        have hr : RES = (s.mem, 4, k, false) := by rw [← hrun, Nat.sub_self]; show (s.mem, 4, k, s.tch) = _; rw [htch]
        have HR := Lib.hid hr
        have HC4 := Lib.hid (HC.out.setEnd 4)
        have HB4 := Lib.hid (HB.out.setCell (p := ⟨c, 4, none⟩) HC.out.far.1 (.int .i64 4))
        clear hr hrun hfit htch
        have d1 := HC4.out.c1; have d4 := HC4.out.c4
        go_upto_region 14 with (fail)
        generalize wr.setCell ⟨c, 4, none⟩ (.int .i64 4) = w4 at *
        go_quiet (fail)
        go_wp2_with fail
        ((try simp only [Exit.inBlock, Exit.then]); refine bodyPost_ret (results_tmp4 rfl _ _ _) rfl ?_)
        exact HFin.out 4 k (w4.drewN nq) HR.out ⟨HC4.out.blk, HC4.out.u, HC4.out.m, HC4.out.far⟩ (below_drewN HB4.out nq)
      have hkq : ((k : Int) == (most : Int)) = false := by simp; omega
      obtain ⟨f, hf⟩ : ∃ f, most - k = f + 1 := ⟨most - k - 1, by omega⟩
      have hf2 : most - (k + 1) = f := by omega
      rw [hf] at hrun
      have HOn : Hid (∀ s', stepM s (atC (atB ls s.blk) s.pc) 0 0 k = .on s' → runM ls 0 0 (most - (k + 1)) s' (k + 1) = RES) := Lib.hid (fun s' h => by rw [hf2, ← runM_on h]; exact hrun)
      have HOut : Hid (∀ m e k' t, stepM s (atC (atB ls s.blk) s.pc) 0 0 k = .out m e k' t → RES = (m, e, k', t)) := Lib.hid (fun m e k' t h => by rw [← runM_out h]; exact hrun.symm)
      have hbk := hfit.bk; have hpc := hfit.pc
      have hbll := HLen.out s.blk hbk
      have him : ((atC (atB ls s.blk) s.pc).im : Int) < 4294967296 := by have := HIm.out s.blk s.pc hbk hpc; omega
      have HSt := Lib.hid (fun wx hx => step_pick (n := k) (w := wx) (c := c) (rq := rq) (g := g) (mc := mc) (B := w1.heap.size) HPv.out hfit rfl him (by omega) (by omega) hx)
      obtain ⟨tb, toff, ba, cp, rfl, hck, hcs⟩ := HI1.out.below HB.out s.blk hbk
      obtain ⟨bb, off, rfl, hcx⟩ := hcs s.pc hpc
      have hbki : (s.blk : Int) < (ls.length : Int) := by omega
      have hpci : (s.pc : Int) < ((atB ls s.blk).length : Int) := by omega
      clear hfit hcs hrun hf hf2 him
      generalize atC (atB ls s.blk) s.pc = x at *
      generalize (atB ls s.blk).length = bll at *
      obtain ⟨x0, x1, x2, x3, x4, x5⟩ := x
      obtain ⟨c0, c1, c2, c3, c4, c5⟩ := hcx
      simp only at c0 c1 c2 c3 c4 c5
      go_wp2_with fail
      refine wp_region_still_tail 15 (by kernel_rfl) (by kernel_rfl) ?_
      simp only [List.take_succ_cons, List.take_zero, List.drop_succ_cons, List.drop_zero]
      repeat still_step
      refine wpStill_nil ?_
      change wpList _ _ _ _ _ wr.drew
      have HCd := Lib.hid HC.out.drew
      have HE0 : Hid (endOf wr c = 1) := Lib.hid (endOf_at HC.out)
      have HBd := Lib.hid (below_drew1 HB.out)
      clear HC HB p1 d1 d2 d3 d4 f4 hck c0 c1 c2 c3 c4 c5
      generalize wr.drew = w3 at *
      go_wp2_with fail
      refine (HSt.out w3 HCd.out).mono ?_
      rintro e2 w4 ⟨rfl, hsp, hb4⟩
      have HB4 := Lib.hid (HBd.out.trans hb4)
      clear hb4 HBd HCd HSt
      have HCo := Lib.hid hsp
      clear hsp
      cases hst : stepM s ⟨x0, x1, x2, x3, x4, x5⟩ 0 0 k with
      | on s' =>
        rw [hst] at HCo
        have hrn := HOn.out s' hst
        have hcc : CompAt w4 c rq g mc w1.heap.size s' 0 := HCo.out.1
        have hft : FitM regs ls n s' := HCo.out.2.1
        have htt : s'.tch = s.tch := HCo.out.2.2
        have HR := Lib.hid hrn; have HC4 := Lib.hid hcc; have HF4 := Lib.hid hft; have HT := Lib.hid htt
        have d4 := hcc.c4
        clear hrn hcc hft htt hst HOut HOn HCo
        go_wp2_with fail
        go_roundw
        case rel => exact ⟨s', k + 1, 0, by go_num, by omega, HC4.out, HB4.out, HF4.out.ml, .inl ⟨rfl, HF4.out, by rw [HT.out]; exact htch, HR.out⟩⟩
        case measure =>
          have a1 := endOf_at HC4.out
          have a0 := HE0.out
          simp [intOf, a1, a0]
          omega
      | out m e k' t =>
        rw [hst] at HCo
        have hre := HOut.out m e k' t hst
        have hcc : CompAt w4 c rq g mc w1.heap.size { s with pc := s.pc + 1 } e := HCo.out.1
        obtain ⟨hm, hne, hk', ht⟩ : m = s.mem ∧ e ≠ 0 ∧ k' = (if e = 5 ∨ e = 3 then k else k + 1) ∧ t = s.tch := HCo.out.2
        subst hm ht
        have HC4 := Lib.hid hcc
        have d4 := hcc.c4
        clear hcc hst HOut HOn HCo
        have HRe := Lib.hid hre
        clear hre
        by_cases h5 : e = 5
        · subst h5
          have hkk : k' = k := hk'
          subst hkk
          go_wp2_with fail
          go_roundw
          case rel => exact ⟨{ s with pc := s.pc + 1 }, k', 5, rfl, by omega, HC4.out, HB4.out, hsl, .inr ⟨by decide, by rw [HRe.out, htch]⟩⟩
          case measure =>
            have a1 := endOf_at HC4.out
            have a0 := HE0.out
            simp [intOf, a1, a0]
        by_cases h3 : e = 3
        · subst h3
          have hkk : k' = k := hk'
          subst hkk
          go_wp2_with fail
          go_roundw
          case rel => exact ⟨{ s with pc := s.pc + 1 }, k', 3, rfl, by omega, HC4.out, HB4.out, hsl, .inr ⟨by decide, by rw [HRe.out, htch]⟩⟩
          case measure =>
            have a1 := endOf_at HC4.out
            have a0 := HE0.out
            simp [intOf, a1, a0]
        have h5n : (e != 5) = true := by simp; omega
        have h3n : (e != 3) = true := by simp; omega
        have hkk : k' = k + 1 := by rw [hk', if_neg (show ¬ (e = 5 ∨ e = 3) by omega)]
        have HK := Lib.hid hkk
        clear hk' hkk h5 h3
        go_wp2_with fail
        go_roundw
        case rel => exact ⟨{ s with pc := s.pc + 1 }, k + 1, e, by go_num, by omega, HC4.out, HB4.out, hsl, .inr ⟨hne, by rw [HRe.out, htch, HK.out]⟩⟩
        case measure =>
          have a1 := endOf_at HC4.out
          have a0 := HE0.out
          rw [if_neg hne] at a1
          simp [intOf, a1, a0]
          try omega
end Go.Proofs.YtoldgjieplblpaaGreat.PK
namespace Go.Proofs.YtoldgjieplblpaaGreat.PK
open Go.RowKit

/-- Why a run is refused; 0 if it is not. -/
def exErr (regs : Int) (ls : List (List Cd)) (n : Nat) (most : Int) : Int :=
  if progErrW regs ls = 0 then (if (32768 : Int) < (n : Int) ∨ most < 0 ∨ 200000 < most then 1 else 0) else progErrW regs ls
def RefPost (x : Int) (w : World) (e : Ending) (w' : World) : Prop := e = .returned (.tuple #[.slice none 0 0, .int .i64 0, .int .i64 0, .int .i64 x]) ∧ Below w.heap.size w w'
def WRefPost (x : Int) (w : World) (e : Ending) (w' : World) : Prop := e = .returned (.tuple #[.slice none 0 0, .int .i64 0, .int .i64 0, .bool false, .int .i64 x]) ∧ Below w.heap.size w w'
set_option maxRecDepth 100000 in
set_option maxHeartbeats 4000000 in
theorem Execute_no (regs : Int) (ls : List (List Cd)) (bl : Option Addr) (cap : Nat) (ad : Option Addr) (n mcap : Nat) (most : Int) (w : World) (hin : BlkIn w bl ls) (hll : ls.length ≤ 9223372036854775807) (hlm : ∀ k, k < ls.length → (atB ls k).length ≤ 9223372036854775807) (hx : exErr regs ls n most ≠ 0) :
    Calls Tryz.prog 12 #[.agg #[.int .i64 regs, .slice bl ls.length cap], .slice ad n mcap, .int .i64 most] w (RefPost (exErr regs ls n most) w) := by
  have HV := Lib.hid (fun u (h : BlkIn u bl ls) => ValidateW_any regs ls bl cap u h hll hlm)
  have HI := Lib.hid hin
  clear hin hlm
  unfold exErr at hx ⊢
  unfold RefPost
  generalize progErrW regs ls = pe at *
  have HB0 : Hid (Below w.heap.size w (w.alloc (.cells #[.int .i64 regs, .slice bl ls.length cap] 24))) := Lib.hid ((Below.refl _ _).alloc (Nat.le_refl _) _)
  by_cases hz : pe = 0
  · subst hz
    simp only [if_true] at hx ⊢
    have hbad : (32768 : Int) < (n : Int) ∨ most < 0 ∨ 200000 < most := by
      by_cases h : (32768 : Int) < (n : Int) ∨ most < 0 ∨ 200000 < most
      · exact h
      · rw [if_neg h] at hx; exact absurd rfl hx
    rw [if_pos hbad]
    clear hx
    generalize hlen : ls.length = ln at *
    go_enter Tryz.func12, Tryz.ntmps12
    go_wp2_with fail
    refine (HV.out _ (HI.out.below HB0.out)).mono ?_; rintro e w1 ⟨rfl, hb1⟩
    have HB1 := Lib.hid (HB0.out.trans (hb1.mono HB0.out.size))
    clear hb1
    go_wp2_with fail
    all_goals ((try simp only [Exit.inBlock, Exit.then]); refine bodyPost_ret (results_tmp4 rfl _ _ _) rfl ?_; exact ⟨rfl, HB1.out⟩)
  · simp only [if_neg hz] at hx ⊢
    have hz2 : (pe != 0) = true := by simp; omega
    generalize hlen : ls.length = ln at *
    go_enter Tryz.func12, Tryz.ntmps12
    go_wp2_with fail
    refine (HV.out _ (HI.out.below HB0.out)).mono ?_; rintro e w1 ⟨rfl, hb1⟩
    have HB1 := Lib.hid (HB0.out.trans (hb1.mono HB0.out.size))
    clear hb1
    go_wp2_with fail
    ((try simp only [Exit.inBlock, Exit.then]); refine bodyPost_ret (results_tmp4 rfl _ _ _) rfl ?_)
    exact ⟨rfl, HB1.out⟩
set_option maxRecDepth 100000 in
set_option maxHeartbeats 4000000 in
theorem Watch_no (regs : Int) (ls : List (List Cd)) (bl : Option Addr) (cap : Nat) (ad : Option Addr) (n mcap : Nat) (most : Int) (w : World) (hin : BlkIn w bl ls) (hll : ls.length ≤ 9223372036854775807) (hlm : ∀ k, k < ls.length → (atB ls k).length ≤ 9223372036854775807) (hx : exErr regs ls n most ≠ 0) :
    Calls Tryz.prog 41 #[.agg #[.int .i64 regs, .slice bl ls.length cap], .slice ad n mcap, .int .i64 most, .int .i64 0, .int .i64 0] w (WRefPost (exErr regs ls n most) w) := by
  have HV := Lib.hid (fun u (h : BlkIn u bl ls) => rValidateW_any regs ls bl cap u h hll hlm)
  have HI := Lib.hid hin
  have HWi := Lib.hid rwithin_any
  clear hin hlm
  unfold exErr at hx ⊢
  unfold WRefPost
  generalize progErrW regs ls = pe at *
  have HB0 : Hid (Below w.heap.size w (w.alloc (.cells #[.int .i64 regs, .slice bl ls.length cap] 24))) := Lib.hid ((Below.refl _ _).alloc (Nat.le_refl _) _)
  by_cases hz : pe = 0
  · subst hz
    simp only [if_true] at hx ⊢
    have hbad : (32768 : Int) < (n : Int) ∨ most < 0 ∨ 200000 < most := by
      by_cases h : (32768 : Int) < (n : Int) ∨ most < 0 ∨ 200000 < most
      · exact h
      · rw [if_neg h] at hx; exact absurd rfl hx
    rw [if_pos hbad]
    clear hx
    generalize hlen : ls.length = ln at *
    go_enter Tryz.func41, Tryz.ntmps41
    go_wp2_with fail
    refine (HV.out _ (HI.out.below HB0.out)).mono ?_; rintro e w1 ⟨rfl, hb1⟩
    have HB1 := Lib.hid (HB0.out.trans (hb1.mono HB0.out.size))
    clear hb1
    by_cases hn : (32768 : Int) < (n : Int)
    · go_wp2_with fail
      ((try simp only [Exit.inBlock, Exit.then]); refine bodyPost_ret (results_tmp5 rfl _ _ _) rfl ?_)
      exact ⟨rfl, HB1.out⟩
    · go_wp2_with fail
      refine (HWi.out _ _ _ _).mono ?_; rintro e v ⟨rfl, rfl⟩
      have d1 : (decide ((0 : Int) ≤ most) && decide (most ≤ 200000)) = false := by rw [Bool.and_eq_false_iff, decide_eq_false_iff_not, decide_eq_false_iff_not]; omega
      rw [d1]
      go_wp2_with fail
      ((try simp only [Exit.inBlock, Exit.then]); refine bodyPost_ret (results_tmp5 rfl _ _ _) rfl ?_)
      exact ⟨rfl, HB1.out⟩
  · simp only [if_neg hz] at hx ⊢
    have hz2 : (pe != 0) = true := by simp; omega
    generalize hlen : ls.length = ln at *
    go_enter Tryz.func41, Tryz.ntmps41
    go_wp2_with fail
    refine (HV.out _ (HI.out.below HB0.out)).mono ?_; rintro e w1 ⟨rfl, hb1⟩
    have HB1 := Lib.hid (HB0.out.trans (hb1.mono HB0.out.size))
    clear hb1
    go_wp2_with fail
    ((try simp only [Exit.inBlock, Exit.then]); refine bodyPost_ret (results_tmp5 rfl _ _ _) rfl ?_)
    exact ⟨rfl, HB1.out⟩
end Go.Proofs.YtoldgjieplblpaaGreat.PK
namespace Go.Proofs.YtoldgjieplblpaaGreat.PK
open Go.RowKit

set_option maxRecDepth 100000 in
set_option maxHeartbeats 4000000 in
theorem rExec_of (r : List Int × Int × Nat × Bool) (regs : Int) (ln n cap mcap : Nat) (bl ma : Option Addr) (most : Int) (w : World)
    (hW : ∀ u, Below w.heap.size w u → Calls Tryz.prog 41 #[.agg #[.int .i64 regs, .slice bl ln cap], .slice ma n mcap, .int .i64 most, .int .i64 0, .int .i64 0] u (WatchPost r u)) :
    Calls Tryz.prog 13 #[.agg #[.int .i64 regs, .slice bl ln cap], .slice ma n mcap, .int .i64 most] w (ExecPost r w) := by
  have hal := (Below.refl w.heap.size w).alloc (Nat.le_refl _) (.cells #[.int .i64 regs, .slice bl ln cap] 24)
  have HW := Lib.hid (hW _ hal)
  have HB0 := Lib.hid hal
  unfold WatchPost at HW
  unfold ExecPost
  clear hW hal
  obtain ⟨m, e, k, t⟩ := r
  simp only at HW
  have HP : Hid (∀ (e' : Ending) (w' : World), (∃ g cap, e' = .returned (.tuple #[.slice (some ⟨g, 0, none⟩) m.length cap, .int .i64 e, .int .i64 k, .int .i64 0]) ∧ w'.ownsRow w.heap.size 5 1 (.slice (some ⟨g, 0, none⟩) m.length cap) m.length (encB m)) ∧ Below w.heap.size w w' → ExecPost (m, e, k, t) w e' w') := Lib.hid (fun _ _ h => h)
  show Calls _ _ _ _ (ExecPost (m, e, k, t) w)
  generalize hEP : ExecPost (m, e, k, t) w = EP at *
  clear hEP
  go_enter Tryz.func13, Tryz.ntmps13
  go_wp2_with fail
  refine HW.out.mono ?_; rintro e' w2 ⟨⟨g, gc, rfl, ho⟩, hb⟩
  have HO := Lib.hid (owns_base ho HB0.out.size)
  have HB := Lib.hid (HB0.out.trans (hb.mono HB0.out.size))
  clear ho hb HW HB0
  go_wp2_with fail
  exact bodyPost_ret (v := .tuple #[.slice (some ⟨g, 0, none⟩) m.length gc, .int .i64 e, .int .i64 k, .int .i64 0]) (by simp [results, Tryz.results13, go_sem]) rfl (HP.out _ _ ⟨⟨g, gc, rfl, HO.out⟩, HB.out⟩)
set_option maxRecDepth 100000 in
set_option maxHeartbeats 4000000 in
theorem rExec_no (regs : Int) (ls : List (List Cd)) (bl : Option Addr) (cap : Nat) (ad : Option Addr) (n mcap : Nat) (most : Int) (w : World) (hin : BlkIn w bl ls) (hll : ls.length ≤ 9223372036854775807) (hlm : ∀ k, k < ls.length → (atB ls k).length ≤ 9223372036854775807) (hx : exErr regs ls n most ≠ 0) :
    Calls Tryz.prog 13 #[.agg #[.int .i64 regs, .slice bl ls.length cap], .slice ad n mcap, .int .i64 most] w (RefPost (exErr regs ls n most) w) := by
  have hal := (Below.refl w.heap.size w).alloc (Nat.le_refl _) (.cells #[.int .i64 regs, .slice bl ls.length cap] 24)
  have HW := Lib.hid (Watch_no regs ls bl cap ad n mcap most _ (hin.below hal) hll hlm hx)
  have HB0 := Lib.hid hal
  unfold WRefPost at HW
  unfold RefPost
  clear hal hin hlm hx hll
  generalize exErr regs ls n most = x at *
  generalize ls.length = ln at *
  go_enter Tryz.func13, Tryz.ntmps13
  go_wp2_with fail
  refine HW.out.mono ?_; rintro e' w2 ⟨rfl, hb⟩
  have HB := Lib.hid (HB0.out.trans (hb.mono HB0.out.size))
  clear hb HW HB0
  go_wp2_with fail
  exact bodyPost_ret (v := .tuple #[.slice none 0 0, .int .i64 0, .int .i64 0, .int .i64 x]) (by simp [results, Tryz.results13, go_sem]) rfl ⟨rfl, HB.out⟩
end Go.Proofs.YtoldgjieplblpaaGreat.PK
namespace Go.Proofs.YtoldgjieplblpaaGreat.PK
open Go.RowKit

theorem wf_u8 {n : Int} (h : (Lit.int .u8 n).wf = true) : 0 ≤ n ∧ n < 256 := by
  simp [Lit.wf, IntKind.min, IntKind.max, IntKind.bits, IntKind.signed] at h
  omega
theorem u8_cells : Tryz.prog.cellsOf 5 = 1 := by kernel_rfl
def numOf : Value → Int
  | .int _ n => n
  | _ => 0
theorem flat_of {w : World} {a : Addr} {k : IntKind} {x : Int} (h : w.cell? a = some (.int k x)) : a = ⟨a.block, a.off, none⟩ := addr_flat h
set_option maxRecDepth 100000 in
theorem open_mem {H : Type} {enc : TypeId × Value → H} {w : World} {base fuel : Nat} {held : Bool} {v : Value} {x : DataW H × List MemPlace}
    (h : DataW.trod enc Tryz.prog w base (fun _ => true) held fuel 25 [v] = some x) :
    ∃ (a : Option Addr) (cap : Nat) (l : List Int), v = .slice a l.length cap ∧ (a = none → l = [] ∧ cap = 0) ∧ BIn w a l ∧ l.length ≤ maxLen ∧ (∀ x ∈ l, isB x) := by
  rcases Deep.open_slice1 Tryz.underlying25 u8_cells h with ⟨hv, _⟩ | ⟨a, len, cap, m, n, V, D, Pl, hv, _, hlc, hcm, hm, _, hall⟩
  · simp only [List.cons.injEq, and_true] at hv
    exact ⟨none, 0, [], hv, fun _ => ⟨rfl, rfl⟩, fun _ hk => absurd hk (Nat.not_lt_zero _), Nat.zero_le _, fun _ hx => by cases hx⟩
  · simp only [List.cons.injEq, and_true] at hv
    rw [if_pos rfl] at hm
    have hint : ∀ i, i < cap → ∃ x : Int, isB x ∧ w.cell? (a.add i) = some (.int .u8 x) := fun i hi => by
      obtain ⟨h1, h2⟩ := hall i (by omega)
      obtain ⟨x, hx, _, hw⟩ := DataW.trod_int Tryz.underlying5 h2
      simp only [List.cons.injEq, and_true] at hx
      exact ⟨x, wf_u8 hw, by rw [h1, hx]⟩
    have hl : ∀ i, i < cap → ∃ x : Int, isB x ∧ w.cell? (a.add i) = some (.int .u8 x) ∧ numOf ((w.cell? (a.add i)).getD (.int .i64 0)) = x := fun i hi => by
      obtain ⟨x, hx, hc⟩ := hint i hi
      exact ⟨x, hx, hc, by rw [hc]; rfl⟩
    refine ⟨some a, cap, (List.range len).map fun i => numOf ((w.cell? (a.add i)).getD (.int .i64 0)), by simpa using hv, (fun e => by cases e), fun k hk => ?_, by simp; omega, fun x hx => ?_⟩
    · have hk : k < len := by simpa using hk
      obtain ⟨x, _, h1, h2⟩ := hl k (by omega)
      obtain ⟨x0, _, h10, _⟩ := hl 0 (by omega)
      have hf : a = ⟨a.block, a.off, none⟩ := by
        have e : a.add 0 = a := by unfold Addr.add; simp
        rw [e] at h10
        exact flat_of h10
      have eg : ((List.range len).map fun i => numOf ((w.cell? (a.add i)).getD (.int .i64 0))).getD k 0 = x := by
        simp only [List.getD_eq_getElem?_getD, List.getElem?_map, List.getElem?_range hk, Option.map_some, Option.getD_some]
        exact h2
      rw [eg]
      rw [add_flat hf] at h1
      exact ⟨a.block, a.off, by rw [← hf], h1⟩
    · obtain ⟨i, hi, rfl⟩ := List.mem_map.1 hx
      obtain ⟨x, hx, _, h2⟩ := hl i (by have := List.mem_range.1 hi; omega)
      rw [h2]; exact hx
set_option maxRecDepth 100000 in
theorem mem_one {w : World} {base : Nat} {v : Value} (h : Value.okWide Tryz.prog w .any base 25 v) : v.cells.toList = [v] := by
  unfold Value.okWide at h
  rw [Tryz.underlying25] at h
  cases v with
  | agg cs => simp [Cell.okWide, Cell.ok, Tryz.underlying25] at h
  | _ => rfl
/-- Bytes as a string. -/
theorem conv_mem {w : World} {ad : Addr} {l : List Int} (cap : Nat) (h : BIn w (some ad) l) : (convert 25 9 (.slice (some ad) l.length cap)).run Tryz.prog w = .ok (.string (strOfNums l)) w := by
  cases l with
  | nil =>
    rw [run_convert_bytes_string w 25 9 5 (some ad) ([] : List Int).length cap Tryz.underlying25 Tryz.underlying5 Tryz.underlying9]
    simp [Conv.bytesToString, loadCells, strOfNums]
    rfl
  | cons x l =>
    obtain ⟨b, off, e, _⟩ := h 0 (by simp)
    cases e
    exact run_convert_bytes_arg w 25 5 Tryz.underlying25 Tryz.underlying5 b off (x :: l).length cap (x :: l) rfl (fun i hi => by
      obtain ⟨b', off', e, hc⟩ := h i hi
      cases e
      exact hc) 9 Tryz.underlying9
theorem str_nil : strOfNums [] = ByteArray.empty := rfl
theorem conv_none (w : World) : (convert 25 9 (.slice none 0 0)).run Tryz.prog w = .ok (.string ByteArray.empty) w :=
  run_convert_bytes_nil w 25 5 Tryz.underlying25 Tryz.underlying5 0 0 9 Tryz.underlying9
/-- An argument []byte as a string, nil too. -/
theorem conv_arg {w : World} {a : Option Addr} {l : List Int} {cap : Nat} (h : BIn w a l) (hn : a = none → l = [] ∧ cap = 0) : (convert 25 9 (.slice a l.length cap)).run Tryz.prog w = .ok (.string (strOfNums l)) w := by
  cases a with
  | none => obtain ⟨rfl, rfl⟩ := hn rfl; exact conv_none w
  | some ad => exact conv_mem cap h
end Go.Proofs.YtoldgjieplblpaaGreat.PK
