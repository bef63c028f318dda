/- Packed of several texts. -/
import Derived.Test.YtpdbokbmchlgpaaGreatK37
namespace Go.Proofs.YtpdbokbmchlgpaaGreat.PK
open Go.RowKit

/-- The first t bytes of a slot, as numbers. -/
def rowT (mem : List Int) (base t : Nat) : List Int := (List.range t).map fun j => mem.getD (base + j) 0
theorem rowT_succ (mem : List Int) (base t : Nat) : rowT mem base (t + 1) = rowT mem base t ++ [mem.getD (base + t) 0] := by simp [rowT, List.range_succ]
theorem rowT_len (mem : List Int) (base t : Nat) : (rowT mem base t).length = t := by simp [rowT]
/-- The first s slots. -/
def slotL (F : Fun) (mem : List Int) (s : Nat) : List (List Int) := (List.range s).map fun i => rowT mem (512 + 256 * i) (F.sl.getD i 0).toNat
theorem slotL_succ (F : Fun) (mem : List Int) (s : Nat) : slotL F mem (s + 1) = slotL F mem s ++ [rowT mem (512 + 256 * s) (F.sl.getD s 0).toNat] := by simp [slotL, List.range_succ]
theorem slotL_len (F : Fun) (mem : List Int) (s : Nat) : (slotL F mem s).length = s := by simp [slotL]
/-- What the memory says is returned. -/
def retN (r v : Int) : Int := if r < 32 then v % 2 ^ r.toNat else v
noncomputable def sayE (F : Fun) (mem : List Int) : Int := if errF F = 0 then (if mem.length = 32768 then 0 else 1) else errF F
noncomputable def sayN (F : Fun) (mem : List Int) : Int := if sayE F mem = 0 then retN F.ret (rdF mem 256 4) else 0
noncomputable def sayL (F : Fun) (mem : List Int) : List (List Int) := if sayE F mem = 0 then slotL F mem F.sl.length else []
def outV (n : Int) (v : Value) : Value := .agg #[.int .i64 0, .bool false, .int .i64 0, .int .u32 n, v]
/-- What Says answers. -/
def SayPost (F : Fun) (mem : List Int) (w : World) (e : Ending) (w' : World) : Prop :=
  ∃ a c, e = .returned (.tuple #[outV (sayN F mem) (.slice a (sayL F mem).length c), .int .i64 (sayE F mem)]) ∧ RowsIn w' a (sayL F mem) ∧ Below w.heap.size w w'
set_option maxRecDepth 100000 in
theorem results_out {fn : Func} {p t : Tmp} (h : fn.results = #[.cell p 45, .tmp t]) (tmps : Array Value) (w : World) (g : Nat) (x0 x1 x2 x3 x4 : Value) (hp : tmps.getD p undef = .pointer (some ⟨g, 0, none⟩))
    (c0 : w.cell? ⟨g, 0, none⟩ = some x0) (c1 : w.cell? ⟨g, 1, none⟩ = some x1) (c2 : w.cell? ⟨g, 2, none⟩ = some x2) (c3 : w.cell? ⟨g, 3, none⟩ = some x3) (c4 : w.cell? ⟨g, 4, none⟩ = some x4) :
    (results fn tmps).run Tryz.prog w = .ok (.tuple #[.agg #[x0, x1, x2, x3, x4], tmps.getD t undef]) w := by
  have hp' : tmps[p]?.getD undef = .pointer (some ⟨g, 0, none⟩) := by simpa using hp
  simp [results, h, hp', asAddr, loadVar, c0, c1, c2, c3, c4, go_sem]
theorem RowsOwn.keepLo {w w' : World} {base : Nat} {v : Value} {L : List (List Int)} (h : RowsOwn w base v L) (hk : ∀ b, base ≤ b → b < w.heap.size → w'.heap[b]? = w.heap[b]?) (hs : w.heap.size ≤ w'.heap.size) : RowsOwn w' base v L := by
  obtain ⟨vals, ho, hr⟩ := h
  refine ⟨vals, owns_of_block ho (fun g h1 h2 _ => hk g h1 h2), fun k hkl => ?_⟩
  obtain ⟨a, cap, h1, h2, h0, h3, h4⟩ := hr k hkl
  refine ⟨a, cap, h1, h2, h0, fun j hj => ?_, fun b off e => ⟨(h4 b off e).1, Nat.lt_of_lt_of_le (h4 b off e).2.1 hs, (h4 b off e).2.2⟩⟩
  obtain ⟨b, off, rfl, hc⟩ := h3 j hj
  exact ⟨b, off, rfl, cellOf hc (hk b (h4 b off rfl).1 (h4 b off rfl).2.1)⟩
/-- Five cells stored into a row of five. -/
def five (w : World) (p : Nat) (n : Int) (v : Value) : World :=
  ((((w.setCell ⟨p, 0, none⟩ (.int .i64 0)).setCell ⟨p, 1, none⟩ (.bool false)).setCell ⟨p, 2, none⟩ (.int .i64 0)).setCell ⟨p, 3, none⟩ (.int .u32 n)).setCell ⟨p, 4, none⟩ v
theorem five_row {w : World} {p : Nat} {y0 y1 y2 y3 y4 : Value} (n : Int) (v : Value) (h : w.heap[p]? = some (.cells #[y0, y1, y2, y3, y4] 45 (0, 0))) : (five w p n v).heap[p]? = some (.cells #[.int .i64 0, .bool false, .int .i64 0, .int .u32 n, v] 45 (0, 0)) :=
  heap_setCell_same _ p 4 _ _ _ (heap_setCell_same _ p 3 _ _ _ (heap_setCell_same _ p 2 _ _ _ (heap_setCell_same _ p 1 _ _ _ (heap_setCell_same _ p 0 _ _ _ h))))
theorem five_save (w : World) (p : Nat) (n : Int) (v : Value) : Save p w (five w p n v) :=
  ((((Save.set p 0 w _).trans (Save.set p 1 _ _)).trans (Save.set p 2 _ _)).trans (Save.set p 3 _ _)).trans (Save.set p 4 _ _)
set_option maxRecDepth 100000 in
/-- The exit of Says. -/
theorem leave_out {fn : Func} {p4 t : Tmp} (tmps : Array Value) (h : fn.results = #[.cell p4 45, .tmp t]) (w : World) (p : Nat) (hp : tmps.getD p4 undef = .pointer (some ⟨p, 0, none⟩)) {y0 y1 y2 y3 y4 : Value} (n : Int) (v : Value)
    (hr : w.heap[p]? = some (.cells #[y0, y1, y2, y3, y4] 45 (0, 0))) : (results fn tmps).run Tryz.prog (five w p n v) = .ok (.tuple #[.agg #[.int .i64 0, .bool false, .int .i64 0, .int .u32 n, v], tmps.getD t undef]) (five w p n v) := by
  have h5 := five_row n v hr
  exact results_out h tmps _ p _ _ _ _ _ hp (cell_of_row _ _ 0 _ _ _ h5) (cell_of_row _ _ 1 _ _ _ h5) (cell_of_row _ _ 2 _ _ _ h5) (cell_of_row _ _ 3 _ _ _ h5) (cell_of_row _ _ 4 _ _ _ h5)
theorem maskN (r v : Int) (h0 : 0 ≤ r) (h1 : r ≤ 32) (hv : isW v) : bits BinOp.and IntKind.u32 v (IntKind.u32.wrap (IntKind.u32.wrap (2 ^ r.toNat) - 1)) = retN r v := by
  obtain ⟨v0, v1⟩ := hv
  obtain ⟨n, rfl⟩ := Int.eq_ofNat_of_zero_le h0
  unfold retN
  rw [Int.toNat_natCast]
  by_cases h : (n : Int) < 32
  · have hp : (2 : Nat) ^ n < 2 ^ 32 := Nat.pow_lt_pow_right (by decide) (by omega)
    have hq : 0 < (2 : Nat) ^ n := Nat.pow_pos (by decide)
    have e1 : ((2 : Int) ^ n) = ((2 ^ n : Nat) : Int) := by simp
    rw [if_pos h, e1]
    generalize hm : 2 ^ n = m at *
    have e2 : IntKind.u32.wrap (m : Int) = m := by simp [IntKind.wrap, IntKind.bits, IntKind.signed]; omega
    have e3 : IntKind.u32.wrap ((m : Int) - 1) = ((m - 1 : Nat) : Int) := by simp [IntKind.wrap, IntKind.bits, IntKind.signed]; omega
    rw [e2, e3, u32_and v _ v0 v1 (by omega) (by omega), Int.toNat_natCast, ← hm, Nat.and_two_pow_sub_one_eq_mod, hm]
    obtain ⟨V, rfl⟩ := Int.eq_ofNat_of_zero_le v0
    rw [Int.toNat_natCast]; exact Int.natCast_emod V m
  · obtain rfl : n = 32 := by omega
    rw [if_neg h]
    have e2 : IntKind.u32.wrap (IntKind.u32.wrap (2 ^ 32) - 1) = 4294967295 := by decide
    rw [e2, u32_and v _ v0 v1 (by omega) (by omega)]
    have e : v.toNat &&& (4294967295 : Int).toNat = v.toNat % 2 ^ 32 := Nat.and_two_pow_sub_one_eq_mod v.toNat 32
    rw [e]; omega
set_option maxRecDepth 100000 in
set_option maxHeartbeats 2000000 in
theorem Says_pick_any (F : Fun) (A : FunA) (mem : List Int) (g : Nat) (w : World) (hin : FunIn w F A) (hok : FunOk F) (hm : BIn w (some ⟨g, 0, none⟩) mem) (hB : ∀ x ∈ mem, isB x) (hml : mem.length ≤ 1000000) :
    Calls Tryz.prog 11 #[funV F A, .slice (some ⟨g, 0, none⟩) mem.length mem.length] w (SayPost F mem w) := by
  obtain ⟨pa, pc, sa, sc, ba, bc⟩ := A
  have hal : Below w.heap.size w ((w.alloc (.cells #[.slice pa F.ps.length pc, .int .i64 F.ret, .slice sa F.sl.length sc, .slice ba F.bs.length bc] 25)).alloc (.cells #[.int .i64 0, .bool false, .int .i64 0, .int .u32 0, .slice none 0 0] 45)) := ((Below.refl _ _).alloc (Nat.le_refl _) _).alloc (by simp) _
  have HI := Lib.hid (hin.below hal)
  have HM := Lib.hid (hm.below hal)
  have hr1 : ((w.alloc (.cells #[.slice pa F.ps.length pc, .int .i64 F.ret, .slice sa F.sl.length sc, .slice ba F.bs.length bc] 25)).alloc (.cells #[.int .i64 0, .bool false, .int .i64 0, .int .u32 0, .slice none 0 0] 45)).heap[w.heap.size + 1]? = some ((.cells #[.int .i64 0, .bool false, .int .i64 0, .int .u32 0, .slice none 0 0] 45) : Obj) := by
    have := heap_alloc_new (w.alloc (.cells #[.slice pa F.ps.length pc, .int .i64 F.ret, .slice sa F.sl.length sc, .slice ba F.bs.length bc] 25)) (.cells #[.int .i64 0, .bool false, .int .i64 0, .int .u32 0, .slice none 0 0] 45)
    simpa using this
  have hr0 : ((w.alloc (.cells #[.slice pa F.ps.length pc, .int .i64 F.ret, .slice sa F.sl.length sc, .slice ba F.bs.length bc] 25)).alloc (.cells #[.int .i64 0, .bool false, .int .i64 0, .int .u32 0, .slice none 0 0] 45)).heap[w.heap.size]? = some ((.cells #[.slice pa F.ps.length pc, .int .i64 F.ret, .slice sa F.sl.length sc, .slice ba F.bs.length bc] 25) : Obj) := by
    rw [Below.heap_alloc _ _ _ (by simp)]
    exact heap_alloc_new _ _
  have HB0 := Lib.hid hal
  have g0 := cell_of_row _ _ 0 _ _ _ hr0; have g1 := cell_of_row _ _ 1 _ _ _ hr0; have g2 := cell_of_row _ _ 2 _ _ _ hr0; have g3 := cell_of_row _ _ 3 _ _ _ hr0
  have HG1 := Lib.hid g1; have HG2 := Lib.hid g2
  have HO1 := Lib.hid hr1
  have hsz1 : w.heap.size + 1 < ((w.alloc (.cells #[.slice pa F.ps.length pc, .int .i64 F.ret, .slice sa F.sl.length sc, .slice ba F.bs.length bc] 25)).alloc (.cells #[.int .i64 0, .bool false, .int .i64 0, .int .u32 0, .slice none 0 0] 45)).heap.size := by simp
  have HS1 := Lib.hid hsz1
  have HVa := Lib.hid (fun u (h : FunIn u F ⟨pa, pc, sa, sc, ba, bc⟩) => Validate_ir_any F ⟨pa, pc, sa, sc, ba, bc⟩ u h hok)
  have hZ : ∀ n W', n ≠ 0 → sayE F mem = n → Below w.heap.size w W' → SayPost F mem w (.returned (.tuple #[outV 0 (.slice none 0 0), .int .i64 n])) W' := fun n W' h0 h1 h2 => by
    have hn : ¬ sayE F mem = 0 := by rw [h1]; exact h0
    refine ⟨none, 0, ?_, ?_, h2⟩
    · unfold sayN sayL; rw [if_neg hn, if_neg hn, h1]; rfl
    · unfold sayL; rw [if_neg hn]; exact fun k hk => absurd hk (Nat.not_lt_zero _)
  have hY : ∀ a c lo hi W', sayE F mem = 0 → RowsBet W' lo hi (.slice a F.sl.length c) (slotL F mem F.sl.length) → Below w.heap.size w W' → SayPost F mem w (.returned (.tuple #[outV (retN F.ret (rdF mem 256 4)) (.slice a F.sl.length c), .int .i64 0])) W' := fun a c lo hi W' h0 h1 h2 => by
    refine ⟨a, c, ?_, ?_, h2⟩
    · unfold sayN sayL; rw [if_pos h0, if_pos h0, h0, slotL_len]
    · unfold sayL; rw [if_pos h0]; exact h1.rows rfl
  have hE1 : errF F ≠ 0 → sayE F mem = errF F := fun h => by unfold sayE; rw [if_neg h]
  have hE2 : errF F = 0 → mem.length ≠ 32768 → sayE F mem = 1 := fun h h2 => by unfold sayE; rw [if_pos h, if_neg h2]
  have hE3 : errF F = 0 → mem.length = 32768 → sayE F mem = 0 := fun h h2 => by unfold sayE; rw [if_pos h, if_pos h2]
  unfold outV at hZ hY
  have HZ := Lib.hid hZ; have HY := Lib.hid hY; have HE1 := Lib.hid hE1; have HE2 := Lib.hid hE2; have HE3 := Lib.hid hE3
  have HFa : Hid (errF F = 0 → F.sl.length ≤ 2 ∧ (0 ≤ F.ret ∧ F.ret ≤ 32) ∧ ∀ s, s < F.sl.length → 1 ≤ F.sl.getD s 0 ∧ F.sl.getD s 0 ≤ 8) := Lib.hid fun h => by
    have hg := errF_good h
    have h1 := lrg_parts hg.lrg
    have h2 := hg.head
    unfold headB at h2
    simp only [Bool.and_eq_true, decide_eq_true_eq] at h2
    exact ⟨by omega, h2.1.2, fun s hs => head_slot hg.head hs⟩
  have HRd := Lib.hid (fun (hl : mem.length = 32768) u (h : BIn u (some ⟨g, 0, none⟩) mem) => get_any mem (some ⟨g, 0, none⟩) mem.length 256 4 u h hB hml (by omega) (by omega))
  have HRw := Lib.hid (rdD_w mem 256 4 4)
  have HBy := Lib.hid (fun k => getD_b hB k)
  clear hZ hY hE1 hE2 hE3 hin hal hr0 hr1 hok hm hB
  obtain ⟨j0, hj, jp0, jp1, jp2⟩ := info_parts infoRowI
  obtain ⟨i0, hi, ip0, ip1, ip2⟩ := info_parts Tryz.infoInt
  generalize hPP : SayPost F mem w = PP at *
  clear hPP
  generalize hSE : sayE F mem = SE at *
  clear hSE
  generalize hR : errF F = R at *
  clear hR
  simp only [funV, funC] at HVa ⊢
  generalize hnm : F.sl.length = nm at *
  have HNm := Lib.hid hnm; clear hnm
  generalize hret : F.ret = r at *
  clear hret
  generalize hn : mem.length = n at *
  have HN := Lib.hid hn; clear hn
  go_enter Tryz.func11, Tryz.ntmps11
  go_upto_region 1 with fail
  generalize hp4 : w.heap.size + 1 = p4 at *
  have HLe : Hid (w.heap.size ≤ p4) := Lib.hid (by omega)
  have HLt : Hid (w.heap.size < p4) := Lib.hid (by omega)
  clear hp4
  generalize ((w.alloc _).alloc _) = w1 at *
  have HV1 := Lib.hid (HVa.out w1 HI.out)
  go_wp2_with fail
  refine HV1.out.mono ?_; rintro e w2 ⟨rfl, hb2⟩
  have HBw := Lib.hid (HB0.out.trans (hb2.mono HB0.out.size))
  have HM2 := Lib.hid (HM.out.below hb2)
  have HI2 := Lib.hid (HI.out.below hb2)
  have k1 := keep HG1.out hb2; have k2 := keep HG2.out hb2
  have HK1 := Lib.hid k1; have HK2 := Lib.hid k2
  have hO2 : w2.heap[p4]? = _ := (hb2.block p4 HS1.out).trans HO1.out
  have HO2 := Lib.hid hO2
  have hS2 : p4 < w2.heap.size := lt_of_block hO2
  have HS2 := Lib.hid hS2
  clear hb2 g0 g1 g2 g3 hO2 hS2 hsz1 k1 k2
  have o0 := cell_of_row _ _ 0 _ _ _ HO2.out; have o1 := cell_of_row _ _ 1 _ _ _ HO2.out; have o2 := cell_of_row _ _ 2 _ _ _ HO2.out; have o3 := cell_of_row _ _ 3 _ _ _ HO2.out; have o4 := cell_of_row _ _ 4 _ _ _ HO2.out
  have z0 := frozen_of_row w2 p4 0 _ _ HO2.out; have z1 := frozen_of_row w2 p4 1 _ _ HO2.out; have z2 := frozen_of_row w2 p4 2 _ _ HO2.out; have z3 := frozen_of_row w2 p4 3 _ _ HO2.out; have z4 := frozen_of_row w2 p4 4 _ _ HO2.out
  by_cases h0 : R = 0
  rotate_left
  · have hE := HE1.out h0
    have q : (R != 0) = true := bne_iff_ne.2 h0
    have hX := HZ.out R (five w2 p4 0 (.slice none 0 0)) h0 hE (HBw.out.trans ((five_save w2 p4 0 _).below HLe.out HBw.out.size))
    have HX := Lib.hid hX
    clear h0 hX
    go_wp2_with fail
    ((try simp only [Exit.inBlock, Exit.then]); refine bodyPost_ret (leave_out _ rfl w2 _ rfl _ _ HO2.out) rfl ?_)
    exact HX.out
  subst h0
  by_cases h1 : n = 32768
  rotate_left
  · have hE := HE2.out rfl h1
    have q0 : ((0 : Int) != 0) = false := rfl
    have q : ((n : Int) != 32768) = true := bne_iff_ne.2 (by omega)
    have HX := Lib.hid (HZ.out 1 (five w2 p4 0 (.slice none 0 0)) (by decide) hE (HBw.out.trans ((five_save w2 p4 0 _).below HLe.out HBw.out.size)))
    clear h1
    go_wp2_with fail
    ((try simp only [Exit.inBlock, Exit.then]); refine bodyPost_ret (leave_out _ rfl w2 _ rfl _ _ HO2.out) rfl ?_)
    exact HX.out
  subst h1
  obtain ⟨hn2, ⟨hr0, hr1⟩, hsl⟩ := HFa.out rfl
  have HSl := Lib.hid hsl
  have q0 : ((0 : Int) != 0) = false := rfl
  have k1 := HK1.out; have k2 := HK2.out
  clear hsl o0 o1 o2 o3 o4 z0 z1 z2 z3 z4
  go_upto_region 7 with fail
  have hal3 := (Below.refl w2.heap.size w2).alloc (Nat.le_refl _) (.cells #[.int .i64 0, .bool false, .int .i64 0, .int .u32 0, .slice none 0 0] 45)
  have hr3 : (w2.alloc (.cells #[.int .i64 0, .bool false, .int .i64 0, .int .u32 0, .slice none 0 0] 45)).heap[w2.heap.size]? = some (.cells #[.int .i64 0, .bool false, .int .i64 0, .int .u32 0, .slice none 0 0] 45) := heap_alloc_new _ _
  have hp4p := HS2.out
  have hs3 : w2.heap.size < (w2.alloc (.cells #[.int .i64 0, .bool false, .int .i64 0, .int .u32 0, .slice none 0 0] 45)).heap.size := by simp
  generalize w2.alloc (.cells #[.int .i64 0, .bool false, .int .i64 0, .int .u32 0, .slice none 0 0] 45) = w3 at *
  generalize hp : w2.heap.size = p at *
  have HP := Lib.hid hp; clear hp
  have HAl := Lib.hid hal3; have HR3 := Lib.hid hr3; have HS3 := Lib.hid hs3; have HPP := Lib.hid hp4p
  have y3 := cell_of_row _ _ 3 _ _ _ hr3
  have z3 := frozen_of_row w3 p 3 _ _ hr3
  have x1 := keep HK1.out (by rw [HP.out]; exact hal3)
  have hrd1 := HRd.out (by trivial) w3.drew ((show BIn w3 _ _ from HM2.out.below (by rw [HP.out]; exact hal3)) : BIn w3 _ _)
  rw [show ((256 : Nat) : Int) = 256 from rfl, show ((4 : Nat) : Int) = 4 from rfl] at hrd1
  have HRd1 := Lib.hid hrd1
  clear hrd1
  have HMk := Lib.hid (maskN r (rdF mem 256 4) hr0 hr1 HRw.out)
  clear hal3 hr3 hs3 hp4p k1 k2
  go_region_with (go_at_call 29; refine (HRd1.out).mono ?_; rintro e w5 ⟨rfl, rfl⟩)
  all_goals
    rw [HMk.out]
    have hrow : (w3.setCell ⟨p, 3, none⟩ (.int .u32 (retN r (rdF mem 256 4)))).drew.heap[p]? = some (.cells #[.int .i64 0, .bool false, .int .i64 0, .int .u32 (retN r (rdF mem 256 4)), .slice none 0 0] 45 (0, 0)) := heap_setCell_same _ p 3 _ _ _ HR3.out
    have hsv0 : Save p w3 (w3.setCell ⟨p, 3, none⟩ (.int .u32 (retN r (rdF mem 256 4)))) := Save.set p 3 w3 _
    have hsv : Save p w3 (w3.setCell ⟨p, 3, none⟩ (.int .u32 (retN r (rdF mem 256 4)))).drew := ⟨hsv0.os, hsv0.tape, hsv0.output, hsv0.size, hsv0.block⟩
    generalize (w3.setCell ⟨p, 3, none⟩ (.int .u32 (retN r (rdF mem 256 4)))).drew = wc at *
    have hbc : Below p w2 wc := HAl.out.trans (hsv.below (Nat.le_refl _) (Nat.le_of_lt HS3.out))
    have HRow := Lib.hid hrow; have HBc := Lib.hid hbc
    have HCz : Hid (p + 1 ≤ wc.heap.size) := Lib.hid (lt_of_block hrow)
    have x2 := keep HK2.out (by rw [HP.out]; exact hbc)
    clear hrow hsv0 hsv hbc HRd1 HMk x1 y3 z3
    generalize retN r (rdF mem 256 4) = NN at *
    generalize IntKind.u32.wrap (IntKind.u32.wrap (2 ^ r.toNat) - 1) = X1
    generalize IntKind.u32.wrap (2 ^ r.toNat) = X2
    go_wp2_with fail
    clear x2
    have HSlot := Lib.hid (fun s u hs => slotAt_any s u hs)
    have HBl : Hid (∀ wr, Below p wc wr → Below p w2 wr) := Lib.hid fun wr h => HBc.out.trans h
    go_loopw [36] (fun i wr => ∃ (s : Nat) (v : Value), s ≤ nm ∧ i = .int .i64 s ∧ wr.heap[p]? = some (.cells #[.int .i64 0, .bool false, .int .i64 0, .int .u32 NN, v] 45 (0, 0)) ∧ RowsOwn wr (p + 1) v (slotL F mem s) ∧ Below p wc wr) (fun i _ => nm - (intOf i).toNat)
    case atStart => exact ⟨0, _, Nat.zero_le _, rfl, HRow.out, RowsOwn.nil _ _, Below.refl _ _⟩
    case round =>
      obtain ⟨wo, hwo⟩ : ∃ x, x = wr := ⟨wr, rfl⟩
      subst hwo
      obtain ⟨s, v, hs, rfl, hrw, hro, hbl⟩ := hrel
      have HRw0 := Lib.hid hrw; have HRo := Lib.hid hro
      have hb2r := HBl.out wo hbl
      have HBr := Lib.hid hb2r; have HBl2 := Lib.hid hbl
      by_cases hlt : s < nm
      rotate_left
      · obtain rfl : s = nm := by omega
        obtain ⟨oa, oc, rfl⟩ := hro.shape
        rw [slotL_len] at hrw hro
        have y0 := cell_of_row _ _ 0 _ _ _ hrw; have y1 := cell_of_row _ _ 1 _ _ _ hrw; have y2 := cell_of_row _ _ 2 _ _ _ hrw; have y3 := cell_of_row _ _ 3 _ _ _ hrw; have y4 := cell_of_row _ _ 4 _ _ _ hrw
        have h4 : wo.heap[p4]? = _ := (hb2r.block p4 HPP.out).trans HO2.out
        have H4 := Lib.hid h4
        have z0 := frozen_of_row wo p4 0 _ _ h4; have z1 := frozen_of_row wo p4 1 _ _ h4; have z2 := frozen_of_row wo p4 2 _ _ h4; have z3 := frozen_of_row wo p4 3 _ _ h4; have z4 := frozen_of_row wo p4 4 _ _ h4
        have o0 := cell_of_row _ _ 0 _ _ _ h4; have o1 := cell_of_row _ _ 1 _ _ _ h4; have o2 := cell_of_row _ _ 2 _ _ _ h4; have o3 := cell_of_row _ _ 3 _ _ _ h4; have o4 := cell_of_row _ _ 4 _ _ _ h4
        have hbet := hro.bet.keep (w' := five wo p4 NN (.slice oa s oc)) (fun b h1 h2 => (five_save wo p4 NN _).block b h2 (by have := HPP.out; omega))
        have HX := Lib.hid (HY.out oa oc _ _ (five wo p4 NN (.slice oa s oc)) (HE3.out (by trivial) (by trivial)) hbet ((HBw.out.trans (hb2r.mono (by rw [← HP.out]; exact HBw.out.size))).trans ((five_save wo p4 NN _).below HLe.out (Nat.le_trans HBw.out.size (by rw [HP.out]; exact Nat.le_of_lt (lt_of_block hrw))))))
        clear hbet h4 hb2r hbl hro hrw
        go_wp2_with fail
        ((try simp only [Exit.inBlock, Exit.then]); refine bodyPost_ret (leave_out _ rfl wo _ rfl _ _ H4.out) rfl ?_)
        exact HX.out
      have hsi : (s : Int) < (nm : Int) := by omega
      obtain ⟨sb, so, hsa, c2⟩ := (HI2.out.sl.below (by rw [HP.out]; exact hb2r)) s (by rw [HNm.out]; exact hlt)
      obtain rfl : sa = _ := hsa
      obtain ⟨hz0, hz1⟩ := HSl.out s hlt
      have hns := slotL_succ F mem s
      have hs2 : s ≤ 1 := by omega
      obtain ⟨oa, oc, rfl⟩ := hro.shape
      have HLs := Lib.hid (slotL_len F mem s)
      obtain ⟨vals, hov, hra⟩ := hro
      have HHv := Lib.hid (fun g e => owns_block hov (g := g) e)
      have HOv := Lib.hid hov; have HRa := Lib.hid hra
      have HPr : Hid (p < wo.heap.size) := Lib.hid (lt_of_block hrw)
      clear hrw hov hra hbl hb2r HRo
      generalize hz : F.sl.getD s 0 = z at *
      obtain ⟨m, rfl⟩ := Int.eq_ofNat_of_zero_le (show 0 ≤ z by omega)
      rw [Int.toNat_natCast] at hns
      clear hz
      have HNs := Lib.hid hns; clear hns
      have HSlu : Hid (∀ u, Calls Tryz.prog 25 #[.int .i64 s] u fun e w' => e = .returned (.int .i64 (512 + 256 * (s : Int))) ∧ u = w') := Lib.hid fun u => by
        have := HSlot.out s u (by omega)
        rw [show ((512 + 256 * s : Nat) : Int) = 512 + 256 * (s : Int) by omega] at this
        exact this.mono fun e w' ⟨h1, h2⟩ => ⟨h1, h2.symm⟩
      generalize slotL F mem s = L at *
      have hlo : (0 : Int) ≤ 512 + 256 * (s : Int) := by omega
      have hhi : 512 + 256 * (s : Int) + (m : Int) ≤ 32768 := by omega
      have hlh : 512 + 256 * (s : Int) ≤ 512 + 256 * (s : Int) + (m : Int) := by omega
      have hln : (512 + 256 * (s : Int) + (m : Int)).toNat - (512 + 256 * (s : Int)).toNat = m := by omega
      have hlt2 : (512 + 256 * (s : Int)).toNat = 512 + 256 * s := by omega
      go_wp2_with fail
      refine (HSlu.out _).mono ?_; rintro e w5 ⟨rfl, rfl⟩
      go_wp2_with fail
      refine (HSlu.out _).mono ?_; rintro e w5 ⟨rfl, rfl⟩
      go_wp2_with fail
      rw [Nat.add_sub_cancel_left]
      clear c2 hln hlt2 hlh
      have HF0 := Lib.hid (fun t => rowT_len mem (512 + 256 * s) t)
      go_loopw [50, 10] (fun i x wr => ∃ t : Nat, t ≤ m ∧ i = .int .i64 t ∧ wr.ownsRow wo.heap.size 3 1 x t (encI (rowT mem (512 + 256 * s) t)) ∧ Below wo.heap.size wo wr) (fun i _ _ => m - (intOf i).toNat)
      case atStart => exact ⟨0, Nat.zero_le _, rfl, owns_nil _ _ _ _, Below.refl _ _⟩
      case round =>
        obtain ⟨t, ht, rfl, ho, hbq⟩ := hrel
        have hb2q : Below p w2 wr := HBr.out.trans (hbq.mono (Nat.le_of_lt HPr.out))
        obtain ⟨va, vc, rfl⟩ := owns_shape ho
        by_cases htm : t < m
        · have hti : (t : Int) < (m : Int) := by omega
          obtain ⟨b3, o3, e3, hc3⟩ := (HM2.out.below (by rw [HP.out]; exact hb2q)) (512 + 256 * s + t) (by rw [HN.out]; omega)
          cases e3
          rw [Nat.zero_add] at hc3
          obtain ⟨hx0, hx1⟩ := HBy.out (512 + 256 * s + t)
          have HE := Lib.hid (rowT_succ mem (512 + 256 * s) t)
          have HO2 := Lib.hid ho; have HB2 := Lib.hid hbq
          clear ho hbq hb2q
          generalize mem.getD (512 + 256 * s + t) 0 = x at *
          have HN6 := Lib.hid (cell_one_at wr (.int .i64 x) 3)
          have HO6 := Lib.hid (HO2.out.alloc (.cells #[.int .i64 x] 3))
          have HB6 := Lib.hid (HB2.out.alloc HB2.out.size (.cells #[.int .i64 x] 3))
          have HS63 : Hid (t + 1 ≤ maxLen) := Lib.hid (by unfold maxLen; omega)
          have HSb : Hid ((t + 1) * 8 ≤ 140737488355328) := Lib.hid (by omega)
          have HG5 := Lib.hid (fun g hg => (owns_block HO2.out (g := g) hg).1)
          go_wp2_with (at_builtin; refine wpList_append_own_at _ rfl _ _ 22 rfl wo.heap.size 3 i0 (.int .i64 0) 1 8 Tryz.underlying22 hi ip0 ip1 ip2 rfl (by decide) _ _ _ rfl HO6.out ⟨wr.heap.size, 0, none⟩ 1 1 [.int .i64 x] rfl rfl HN6.out (one_int _) HS63.out HSb.out HB6.out.size ?_; intro v9 w9 hown9 hgrow9 _ _; obtain ⟨v9a, v9c, rfl⟩ := owns_shape hown9; have HO9 := Lib.hid hown9; have HB9 := Lib.hid (HB6.out.grown hgrow9 HB6.out.size (fun g hg => HG5.out g hg)); clear hown9 hgrow9)
          go_roundw
          case rel => exact ⟨t + 1, by omega, by go_num, by rw [HE.out, encI_snoc]; exact HO9.out, HB9.out⟩
          case measure => simp [intOf]; omega
        obtain rfl : t = m := by omega
        have HFl := Lib.hid (HF0.out t)
        have hra := HRa.out.below hbq
        have HOv2 := Lib.hid (owns_below HOv.out hbq)
        have HRa2 := Lib.hid hra
        have hrw2 : wr.heap[p]? = _ := (hbq.block p HPr.out).trans HRw0.out
        have y4 := cell_of_row _ _ 4 _ _ _ hrw2
        have HRw2 := Lib.hid hrw2
        have HO5 := Lib.hid ho; have HB5 := Lib.hid hbq
        have HO6 := Lib.hid ((owns_below HOv.out hbq).alloc (.cells #[.slice va t vc] 22))
        have HS63 : Hid (L.length + 1 ≤ maxLen) := Lib.hid (by have := HLs.out; unfold maxLen; omega)
        have HSb : Hid ((L.length + 1) * 24 ≤ 140737488355328) := Lib.hid (by have := HLs.out; omega)
        have HZ6 : Hid (p + 1 ≤ (wr.alloc (.cells #[.slice va t vc] 22)).heap.size) := Lib.hid (by have := HB5.out.size; have := HPr.out; simp; omega)
        have HPw : Hid (p < wr.heap.size) := Lib.hid (Nat.lt_of_lt_of_le HPr.out hbq.size)
        have HBa : Hid (Below p wc (wr.alloc (.cells #[.slice va t vc] 22))) := Lib.hid ((HBl2.out.trans (hbq.mono (Nat.le_of_lt HPr.out))).alloc (Nat.le_of_lt HPw.out) _)
        clear ho hbq hb2q hra hrw2
        go_wp2_with (at_builtin; refine wpList_append_own_at _ rfl _ _ 27 rfl (p + 1) 22 j0 (.slice none 0 0) 1 24 Tryz.underlying27 hj jp0 jp1 jp2 rfl (by decide) _ _ _ rfl HO6.out ⟨wr.heap.size, 0, none⟩ 1 1 [.slice va t vc] rfl rfl (cell_one_at _ _ _) (by simp [Value.oneCell']) HS63.out HSb.out HZ6.out ?_; intro v9 w9 hown9 hgrow9 _ hat9; obtain ⟨v9a, v9c, rfl⟩ := owns_shape hown9; have hp9 : w9.heap[p]? = some (.cells #[.int .i64 0, .bool false, .int .i64 0, .int .u32 NN, .slice oa L.length oc] 45 (0, 0)) := (hgrow9.block p (by have := HZ6.out; omega) (fun e => by have := (HHv.out _ e.symm).1; omega)).trans ((heap_past _ _ _ HPw.out).trans HRw2.out); have y9 := cell_of_row _ _ 4 _ _ _ hp9; have z9 := frozen_of_row w9 p 4 _ _ hp9; have HP9 := Lib.hid hp9; have HO9 := Lib.hid hown9; have HG9 := Lib.hid hgrow9; have HA9 := Lib.hid hat9; clear hown9 hgrow9 hat9 hp9)
        have hrn := RowsOwn.snoc_own (va := va) (vc := vc) (f := rowT mem (512 + 256 * s) t) HOv2.out HRa2.out (fun g hg => (HHv.out g hg).2) (Nat.succ_le_of_lt HPr.out) (by rw [HFl.out]; exact HO5.out) (by rw [HFl.out]; exact HO9.out) HG9.out HA9.out
        have hbn := HBa.out.grown HG9.out (Nat.le_trans (Nat.le_succ p) HZ6.out) (fun g hg => Nat.le_trans (Nat.le_succ p) (HHv.out g hg).1)
        have HRn := Lib.hid (hrn.keepLo (w' := w9.setCell ⟨p, 4, none⟩ (.slice v9a (L.length + 1) v9c)) (fun b h1 _ => Below.heap_setCell _ _ _ _ (by show b ≠ p; omega)) (by simp [World.setCell]))
        have HBn := Lib.hid (hbn.setCell (p := ⟨p, 4, none⟩) (Nat.le_refl p) (.slice v9a (L.length + 1) v9c))
        clear hrn hbn
        go_roundw
        case rel => exact ⟨s + 1, _, by omega, by go_num, heap_setCell_same w9 p 4 _ _ _ HP9.out, by rw [HNs.out]; exact HRn.out, HBn.out⟩
        case measure => simp [intOf]; omega
end Go.Proofs.YtpdbokbmchlgpaaGreat.PK
