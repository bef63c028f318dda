/- Packed of several texts. -/
import Derived.Test.YtbbbflnnbbaamaaGreatDoorH26
import Derived.Test.YtbbbflnnbbaamaaGreatDoorH17
import Derived.Test.YtbbbflnnbbaamaaGreatDoorH28
import Derived.Test.YtbbbflnnbbaamaaGreatDoorH19
import Derived.StillTailTactics
namespace Go.Proofs.YtbbbflnnbbaamaaGreatDoor.PK
open Go.RowKit

theorem blk_last {l : List Ins} (h : blkOk l) : isLst (lasI l).op = true := by
 obtain ⟨h1, h2⟩ := h
 have := (h2 (l.length - 1) (by omega)).1
 rw [show ((l.length - 1 : Nat) : Int) = (l.length : Int) - 1 by omega, decide_eq_true rfl] at this
 exact this
theorem gr_valid {F : Fun} (h1 : 1 ≤ F.bs.length) (h2 : F.bs.length ≤ 10) (hs : shpP F) (hb : ∀ b, b < F.bs.length → blkOk (atBk F.bs b)) : FL.validE (gI F) = 0 := by
 have hlast : ∀ b, b < F.bs.length → ((lasI (atBk F.bs b)).tt.length : Int) = tosI (lasI (atBk F.bs b)) ∧ ∀ y, y ∈ (lasI (atBk F.bs b)).tt → 0 ≤ y ∧ y < (F.bs.length : Int) := fun b h => by
  have := shape_tos (hs b ((atBk F.bs b).length - 1) h (by have := (hb b h).1; omega))
  exact ⟨this.1, this.2.2⟩
 have hrow : ∀ r, r ∈ gI F → r.length ≤ 2 ∧ ∀ y, y ∈ r → 0 ≤ y ∧ y < (F.bs.length : Int) := fun r hr => by
  obtain ⟨k, hk, rfl⟩ := List.mem_iff_getElem.1 hr
  have hk2 : k < F.bs.length := by rwa [gI_len] at hk
  have e : (gI F)[k] = (lasI (atBk F.bs k)).tt := by
   rw [← gI_get hk2, List.getD_eq_getElem?_getD, List.getElem?_eq_getElem hk]; rfl
  rw [e]
  have h3 := hlast k hk2
  have h4 := tos_two (blk_last (hb k hk2))
  exact ⟨by omega, h3.2⟩
 have hl : FL.largeB (gI F) = false := by
  unfold FL.largeB
  rw [gI_len, decide_eq_false (by omega), decide_eq_false (by omega), Bool.false_or, Bool.false_or, List.any_eq_false]
  intro r hr
  rw [decide_eq_true_eq]
  have := (hrow r hr).1
  omega
 have ha : FL.argB (gI F) = false := by
  unfold FL.argB
  rw [List.any_eq_false]
  intro r hr
  rw [Bool.not_eq_true, List.any_eq_false]
  intro y hy
  have := (hrow r hr).2 y hy
  rw [gI_len]
  unfold FL.offB
  rw [decide_eq_false (by omega), decide_eq_false (by omega)]; decide
 unfold FL.validE
 rw [hl, ha]; rfl
theorem range_cut {P : Nat → Bool} {n m : Nat} (h : n ≤ m) (hP : ∀ k, n ≤ k → P k = false) : (List.range m).filter P = (List.range n).filter P := by
 obtain ⟨d, rfl⟩ : ∃ d, m = n + d := ⟨m - n, by omega⟩
 induction d with
 | zero => rfl
 | succ d ih => rw [← Nat.add_assoc, List.range_succ, List.filter_append, ih (by omega)]; simp [hP (n + d) (by omega)]
theorem bef_is {g : List (List Int)} {v : Nat} (hv : FL.validE g = 0) (h : v < g.length) : FL.ints (FL.beforeL g v) = befK g v g.length := by
 have hn : FL.nodeE g [(v : Int)] = 0 := by
  unfold FL.nodeE
  rw [if_pos hv, if_neg]
  unfold FL.offB
  simp; omega
 have hok := FL.valid_ok hv
 unfold FL.beforeL FL.setL FL.setUpto FL.ints befK
 rw [if_pos hn, FL.gN_len]
 have h10 : g.length ≤ 10 := by have := hok.ten; rwa [FL.gN_len] at this
 rw [range_cut h10 (fun k hk => by unfold FL.beforeS; rw [decide_eq_false (by omega), Bool.false_and])]
 congr 1
 refine List.filter_congr fun b hb => ?_
 have hb := List.mem_range.1 hb
 unfold FL.beforeS
 rw [decide_eq_true hb, Bool.true_and, Bool.eq_iff_iff, FL.goesI_iff, decide_eq_true_eq, FL.gN_succ]
 constructor
 ·rintro ⟨x, hx, e⟩
  obtain ⟨y, hy, rfl⟩ := List.mem_map.1 hx
  have := FL.valid_row hv hb y hy
  rwa [← e, Int.toNat_of_nonneg this.1]
 ·intro hx
  exact ⟨v, List.mem_map.2 ⟨_, hx, Int.toNat_natCast v⟩, rfl⟩
theorem nats_ints {w : World} {v : Value} {L : List Nat} (h : FL.NatSl w v L) : ∃ a cap, v = .slice a (FL.ints L).length cap ∧ IntsIn w a (FL.ints L) := by
 obtain ⟨a, cap, rfl, hn⟩ := h
 refine ⟨a, cap, by rw [FL.ints_len], fun k hk => ?_⟩
 rw [FL.ints_len] at hk
 obtain ⟨b, off, e, hc⟩ := hn k hk
 exact ⟨b, off, e, by rw [FL.ints_getD]; exact hc⟩
theorem equalI_any (xs ys : List Int) (a1 a2 : Option Addr) (c1 c2 : Nat) (w : World) (h1 : IntsIn w a1 xs) (h2 : IntsIn w a2 ys) (hx : xs.length ≤ 1000000) :
  Calls Tryz.prog 108 #[.slice a1 xs.length c1, .slice a2 ys.length c2] w fun e w' => e = .returned (.bool (decide (xs = ys))) ∧ ∃ q, w' = w.drewN q := by
 by_cases hl : xs.length = ys.length
 rotate_left
 ·have e : decide (xs = ys) = false := decide_eq_false fun h => hl (by rw [h])
  rw [e]
  exact (Tryz.slices_Equal_int_lens a1 a2 xs.length c1 ys.length c2 w hl).mono fun _ _ h => ⟨h.1, 0, h.2⟩
 by_cases h0 : xs.length = 0
 ·have e : decide (xs = ys) = decide (ys.length = 0) := by
   have ex := List.length_eq_zero_iff.1 h0
   have ey := List.length_eq_zero_iff.1 (hl ▸ h0)
   rw [ex, ey]; rfl
  rw [e]
  have := Tryz.slices_Equal_int_empty a1 a2 c1 ys.length c2 w (by omega)
  rw [h0]
  exact this.mono fun _ _ h => ⟨h.1, 0, h.2⟩
 ·obtain ⟨b1, o1, rfl, _⟩ := h1 0 (by omega)
  obtain ⟨b2, o2, rfl, _⟩ := h2 0 (by omega)
  have := Tryz.slices_Equal_int b1 o1 xs.length c1 b2 o2 ys.length c2 xs ys w (Nat.le_refl _) (Nat.le_refl _) (by omega) (by omega) (fun j hj => by
   obtain ⟨b, off, e, h⟩ := h1 j hj
   cases e; exact h) (fun j hj => by
   obtain ⟨b, off, e, h⟩ := h2 j hj
   cases e; exact h)
  refine this.mono fun _ _ h => ⟨?_, h.2⟩
  rw [h.1, List.take_length, List.take_length, Bool.beq_eq_decide_eq]
theorem short_valid {g : List (List Int)} (hv : FL.validE g = 0) : FL.Short g := by
 have hl := (FL.valid_parts hv).1
 unfold FL.largeB at hl
 simp only [Bool.or_eq_false_iff, decide_eq_false_iff_not, List.any_eq_false, decide_eq_true_eq] at hl
 refine ⟨by omega, fun k => ?_⟩
 by_cases hk : k < g.length
 ·have := hl.2.2 (g.getD k []) (by rw [List.getD_eq_getElem?_getD, List.getElem?_eq_getElem hk]; exact List.getElem_mem hk)
  omega
 ·rw [List.getD_eq_getElem?_getD, List.getElem?_eq_none (by omega)]; exact Nat.zero_le _
theorem before_list (g : List (List Int)) (a : Option Addr) (cap v : Nat) (w : World) (hin : RowsIn w a g) (hv : FL.validE g = 0) (h : v < g.length) :
  Calls Tryz.prog 75 #[.slice a g.length cap, .int .i64 (v : Nat)] w fun e w' => (∃ b c, e = .returned (.tuple #[.slice b (befK g v g.length).length c, .int .i64 0]) ∧ IntsIn w' b (befK g v g.length)) ∧ Below w.heap.size w w' := by
 have hn : FL.nodeE g [(v : Int)] = 0 := by
  unfold FL.nodeE
  rw [if_pos hv, if_neg]
  unfold FL.offB
  simp; omega
 have hB := FL.Before_any g a cap (v : Int) w hin (short_valid hv)
 rw [hn] at hB
 refine hB.mono ?_
 rintro e w' ⟨x, rfl, hx, hb⟩
 obtain ⟨b, c, rfl, hi⟩ := nats_ints hx
 rw [bef_is hv h] at hi ⊢
 exact ⟨⟨b, c, rfl, hi⟩, hb⟩
theorem laid_of {F : Fun} (h1 : ∀ b, b < F.bs.length → blkOk (atBk F.bs b)) (h2 : befK (gI F) 0 F.bs.length = []) (h3 : ∀ k, k < sumI F.bs F.bs.length → phiOk F (locI F.bs k).1 (locI F.bs k).2) : laidP F := by
 refine ⟨h1, h2, fun b i hb hi => ?_⟩
 have h4 := sumI_mono hb
 have := h3 (sumI F.bs b + i) (by omega)
 rwa [locI_at F.bs b i hb hi] at this
theorem laid_not {F : Fun} {k : Nat} (hk : k < sumI F.bs F.bs.length) (h : ¬ phiOk F (locI F.bs k).1 (locI F.bs k).2) : ¬ laidP F := fun hl => by
 obtain ⟨l1, l2, _, _⟩ := locI_is F.bs k hk
 exact h (hl.2.2 _ _ l1 l2)
end Go.Proofs.YtbbbflnnbbaamaaGreatDoor.PK
namespace Go.Proofs.YtbbbflnnbbaamaaGreatDoor.PK
open Go.RowKit

theorem reach_but {g : FL.Gr} {a b : Nat} (ha : ¬ FL.ReachB g (-1) 0 a) (hb : FL.ReachB g (-1) 0 b) : FL.ReachB g a 0 b := by
 have h0 : FL.ReachB g (-1) 0 0 := .here (by decide)
 refine hb.ind (fun x => FL.ReachB g a 0 x) (fun _ => .here fun e => ha ?_) fun u x hu ih hx _ => ih.step hx fun e => ha ?_
 ·have : a = 0 := by omega
  rw [this]; exact h0
 ·have : a = x := by omega
  rw [this]; exact hu.step hx (by omega)
theorem dom_is {g : List (List Int)} {a b : Nat} (hv : FL.validE g = 0) (ha : a < g.length) (hb : b < g.length) (hr : FL.rs (FL.gN g) (-1) 0 b = true) (hne : a ≠ b) :
  (FL.thereE g [(a : Int), (b : Int)] = 0 → FL.domR g a b = FL.domB (FL.gN g) a b) ∧ (FL.thereE g [(a : Int), (b : Int)] ≠ 0 → FL.domB (FL.gN g) a b = false) := by
 have hn : FL.nodeE g [(a : Int), (b : Int)] = 0 := by
  unfold FL.nodeE
  rw [if_pos hv, if_neg]
  unfold FL.offB
  simp; omega
 refine ⟨fun h => by unfold FL.domR; rw [if_pos h, Int.toNat_natCast, Int.toNat_natCast], fun h => ?_⟩
 have hra : FL.rs (FL.gN g) (-1) 0 a = false := by
  rw [Bool.eq_false_iff]
  intro h2
  apply h
  unfold FL.thereE
  rw [if_pos hn, if_neg]
  simp [h2, hr]
 have h3 := reach_but (fun h => by rw [← FL.rs_iff, hra] at h; cases h) (FL.rs_iff.1 hr)
 unfold FL.domB
 rw [decide_eq_false hne, FL.rs_iff.2 h3]; rfl
theorem held_3h {q : Nat} {p1 p2 p3 o1 o2 o3 : Nat} {v1 v2 v3 : Value} {w3 w1 w2 : World}
  (h : Below q w3 w1 ∧ q ≤ w1.heap.size ∧ w1.cell? ⟨p1, o1, none⟩ = some v1 ∧ w1.cell? ⟨p2, o2, none⟩ = some v2 ∧ w1.cell? ⟨p3, o3, none⟩ = some v3) (hb : Below w1.heap.size w1 w2) :
  Below q w3 w2 ∧ q ≤ w2.heap.size ∧ w2.cell? ⟨p1, o1, none⟩ = some v1 ∧ w2.cell? ⟨p2, o2, none⟩ = some v2 ∧ w2.cell? ⟨p3, o3, none⟩ = some v3 := by
 obtain ⟨h10, h11, h1, h2, h3⟩ := h
 exact ⟨h10.trans (hb.mono h11), Nat.le_trans h11 hb.size, keep h1 hb, keep h2 hb, keep h3 hb⟩
noncomputable def thI (F : Fun) (v : Int) (b : Nat) (at' : Nat) : Bool :=
 if (whI F v).1 < 0 then true else if (whI F v).1 = (b : Int) then decide ((whI F v).2 < (at' : Int)) else FL.domB (FL.gN (gI F)) (whI F v).1.toNat b
theorem thI_at (F : Fun) (v : Int) (b i : Nat) : thI F v b i = thrB F v b i := by
 unfold thI thrB
 rw [decide_eq_false (show ¬ (i : Int) < 0 by omega), Bool.false_or]
theorem thI_end (F : Fun) (v : Int) (b : Nat) : thI F v b (atBk F.bs b).length = thrB F v b (-1) := by
 unfold thI thrB
 by_cases c : (F.ps.length : Int) ≤ v ∧ v < (F.ps.length + sumI F.bs F.bs.length : Nat)
 rotate_left
 ·have : (whI F v).1 = -1 := by unfold whI; rw [if_neg c]
  rw [if_pos (by omega), if_pos (by omega)]
 ·obtain ⟨l1, l2, l3, _⟩ := locI_is F.bs (v.toNat - F.ps.length) (by omega)
  have e : whI F v = (((locI F.bs (v.toNat - F.ps.length)).1 : Int), ((locI F.bs (v.toNat - F.ps.length)).2 : Int)) := by unfold whI; rw [if_pos c]
  rw [e]
  generalize (locI F.bs (v.toNat - F.ps.length)).1 = i1 at *
  generalize (locI F.bs (v.toNat - F.ps.length)).2 = i2 at *
  show (if (i1 : Int) < 0 then true else if (i1 : Int) = (b : Int) then decide ((i2 : Int) < ((atBk F.bs b).length : Int)) else FL.domB (FL.gN (gI F)) i1 b) = if (i1 : Int) < 0 then true else if (i1 : Int) = (b : Int) then decide ((-1 : Int) < 0) || decide ((i2 : Int) < -1) else FL.domB (FL.gN (gI F)) i1 b
  have hz : ¬ (i1 : Int) < 0 := by omega
  simp only [if_neg hz]
  by_cases h : i1 = b
  ·subst h
   rw [if_pos rfl, if_pos rfl, decide_eq_true (by omega), decide_eq_true (show (-1 : Int) < 0 by decide)]; rfl
  ·rw [if_neg (by omega), if_neg (by omega)]
set_option maxRecDepth 100000 in
set_option maxHeartbeats 2000000 in
theorem isThere_any (F : Fun) (a1 a2 ga : Option Addr) (c1 c2 gc : Nat) (v : Int) (b at' : Nat) (w : World) (hs : FunSm F) (h1 : IntsIn w a1 (hbI F (sumI F.bs F.bs.length))) (h2 : IntsIn w a2 (haI F (sumI F.bs F.bs.length))) (hg : RowsIn w ga (gI F))
  (hv0 : 0 ≤ v) (hv1 : v < (F.ps.length + sumI F.bs F.bs.length : Nat)) (hval : FL.validE (gI F) = 0) (hb : b < F.bs.length) (hr : FL.rs (FL.gN (gI F)) (-1) 0 b = true) :
  Calls Tryz.prog 116 #[.agg #[.int .i64 (F.ps.length : Nat), .slice a1 (sumI F.bs F.bs.length) c1, .slice a2 (sumI F.bs F.bs.length) c2, .slice ga F.bs.length gc], .int .i64 v, .int .i64 (b : Nat), .int .i64 (at' : Nat)] w fun e w' => e = .returned (.bool (thI F v b at')) ∧ Below w.heap.size w w' := by
 have hal : Below w.heap.size w (w.alloc (.cells #[.int .i64 (F.ps.length : Nat), .slice a1 (sumI F.bs F.bs.length) c1, .slice a2 (sumI F.bs F.bs.length) c2, .slice ga F.bs.length gc] 158)) := (Below.refl _ _).alloc (Nat.le_refl _) _
 have hrow : (w.alloc (.cells #[.int .i64 (F.ps.length : Nat), .slice a1 (sumI F.bs F.bs.length) c1, .slice a2 (sumI F.bs F.bs.length) c2, .slice ga F.bs.length gc] 158)).heap[w.heap.size]? = some (.cells #[.int .i64 (F.ps.length : Nat), .slice a1 (sumI F.bs F.bs.length) c1, .slice a2 (sumI F.bs F.bs.length) c2, .slice ga F.bs.length gc] 158 (0, 0)) := heap_alloc_new _ _
 have q0 := cell_of_row _ _ 0 _ _ _ hrow; have q1 := cell_of_row _ _ 1 _ _ _ hrow; have q2 := cell_of_row _ _ 2 _ _ _ hrow; have q3 := cell_of_row _ _ 3 _ _ _ hrow
 have HB := Lib.hid hal
 have H1 := Lib.hid (h1.below hal); have H2 := Lib.hid (h2.below hal); have HG := Lib.hid (hg.below hal)
 have hsp := hs.ps
 have hsum := hs.sum F.bs.length (Nat.le_refl _)
 have hT : thI F v b at' = if (whI F v).1 < 0 then true else if (whI F v).1 = (b : Int) then decide ((whI F v).2 < (at' : Int)) else FL.domB (FL.gN (gI F)) (whI F v).1.toNat b := rfl
 have hgl := gI_len F
 have HDm := Lib.hid (fun (a : Nat) u (h : RowsIn u ga (gI F)) => FL.Dominates_any (gI F) ga gc a b u h (short_valid hval))
 have HDi := Lib.hid (fun (a : Nat) (ha : a < F.bs.length) hne => dom_is (g := gI F) (a := a) (b := b) hval (by rw [hgl]; exact ha) (by rw [hgl]; exact hb) hr hne)
 have HLk := Lib.hid (fun k h => locI_is F.bs k h)
 have HbG := Lib.hid (fun k j (h : j < k) => hbI_get (F := F) h); have HaG := Lib.hid (fun k j (h : j < k) => haI_get (F := F) h)
 have HbL := Lib.hid (fun k => hbI_len F k); have HaL := Lib.hid (fun k => haI_len F k)
 rw [hgl] at HDm
 clear h1 h2 hg hal hrow hs hval hr hgl
 by_cases c : (F.ps.length : Int) ≤ v
 rotate_left
 ·have hw : (whI F v).1 = -1 := by unfold whI; rw [if_neg (by omega)]
  have hR : thI F v b at' = true := by rw [hT, if_pos (by omega)]
  rw [hR]
  clear hT hw hR
  generalize F.ps.length = np at *
  generalize sumI F.bs F.bs.length = N at *
  go_enter Tryz.func116, Tryz.ntmps116
  go_wp2_with fail
  go_ret
  exact ⟨rfl, HB.out⟩
 obtain ⟨k, rfl⟩ : ∃ k : Nat, v = ((F.ps.length + k : Nat) : Int) := ⟨v.toNat - F.ps.length, by omega⟩
 have hk : k < sumI F.bs F.bs.length := by omega
 obtain ⟨l1, l2, l3, l4⟩ := HLk.out k hk
 have hw : whI F ((F.ps.length + k : Nat) : Int) = (((locI F.bs k).1 : Int), ((locI F.bs k).2 : Int)) := by
  unfold whI; rw [if_pos (by omega), show ((F.ps.length + k : Nat) : Int).toNat - F.ps.length = k by omega]
 rw [hw] at hT
 have hT2 : thI F ((F.ps.length + k : Nat) : Int) b at' = if ((locI F.bs k).1 : Int) = (b : Int) then decide (((locI F.bs k).2 : Int) < (at' : Int)) else FL.domB (FL.gN (gI F)) (locI F.bs k).1 b := by
  rw [hT, if_neg (by simp), Int.toNat_natCast]
 obtain ⟨b1, o1, rfl, e1⟩ := H1.out k (by rw [HbL.out]; exact hk)
 obtain ⟨b2, o2, rfl, e2⟩ := H2.out k (by rw [HaL.out]; exact hk)
 rw [HbG.out _ _ hk] at e1
 rw [HaG.out _ _ hk] at e2
 have HD := Lib.hid (fun hne => HDi.out (locI F.bs k).1 l1 hne)
 have HDc := Lib.hid (HDm.out (locI F.bs k).1)
 have HT2 := Lib.hid hT2
 clear hT hw hT2 l2 l3 l4 HLk HbG HaG HbL HaL H1 H2 HDi HDm
 generalize thI F ((F.ps.length + k : Nat) : Int) b at' = R at *
 generalize FL.domB (FL.gN (gI F)) (locI F.bs k).1 b = dB at *
 generalize FL.domR (gI F) ((locI F.bs k).1 : Int) (b : Int) = dR at *
 generalize FL.thereE (gI F) [((locI F.bs k).1 : Int), (b : Int)] = tE at *
 generalize (locI F.bs k).1 = i1 at *
 generalize (locI F.bs k).2 = i2 at *
 generalize hN : sumI F.bs F.bs.length = N at *
 generalize hP : F.ps.length = P at *
 generalize hn : F.bs.length = n at *
 clear hN hP hn
 generalize hv : ((P + k : Nat) : Int) = vv at *
 obtain rfl : k = vv.toNat - P := by omega
 have hnlt : ¬ vv < (P : Int) := by omega
 have hle : (P : Int) ≤ vv := by omega
 have hi0 : (0 : Int) ≤ vv - (P : Int) := by omega
 have hki : vv - (P : Int) < (N : Int) := by omega
 clear hv c hk
 go_enter Tryz.func116, Tryz.ntmps116
 go_upto_region 1 with fail
 generalize w.alloc _ = w1 at *
 by_cases hib : i1 = b
 ·have q : ((i1 : Int) == (b : Int)) = true := by simp [hib]
  obtain rfl : R = decide ((i2 : Int) < (at' : Int)) := by rw [HT2.out, if_pos (by omega)]
  clear hib
  go_wp2_with fail
  go_ret
  exact ⟨rfl, HB.out⟩
 have q : ((i1 : Int) == (b : Int)) = false := by simp; omega
 obtain rfl : R = dB := by rw [HT2.out, if_neg (by omega)]
 obtain ⟨hd1, hd2⟩ := HD.out hib
 have HD1 := Lib.hid hd1; have HD2 := Lib.hid hd2
 have hS : Below w1.heap.size w1 w1 ∧ w1.heap.size ≤ w1.heap.size ∧ w1.cell? ⟨w.heap.size, 1, none⟩ = some (.slice (some ⟨b1, o1, none⟩) N c1) ∧ w1.cell? ⟨w.heap.size, 3, none⟩ = some (.slice ga n gc) ∧ w1.cell? ⟨b1, o1 + (vv.toNat - P), none⟩ = some (.int .i64 i1) := ⟨Below.refl _ _, Nat.le_refl _, q1, q3, e1⟩
 have HCt := Lib.hid (fun u (hu : Below w1.heap.size w1 u) => HDc.out u (HG.out.below hu))
 clear hib hd1 hd2
 go_upto_region 6 with fail
 clear q0 q1 q2 q3 e1 e2
 go_region_held3 (fun w' => Below w1.heap.size w1 w' ∧ w1.heap.size ≤ w'.heap.size ∧ w'.cell? ⟨w.heap.size, 1, none⟩ = some (.slice (some ⟨b1, o1, none⟩) N c1) ∧ w'.cell? ⟨w.heap.size, 3, none⟩ = some (.slice ga n gc) ∧ w'.cell? ⟨b1, o1 + (vv.toNat - P), none⟩ = some (.int .i64 i1))
  (first | exact hS | exact held_3h hS (below_drew1 (Below.refl _ _)) | exact held_3h (by assumption) (by assumption))
  (first | (go_at_call 139; refine (HCt.out _ (And.left ‹Below w1.heap.size w1 _ ∧ _›)).mono ?_; rintro e w5 ⟨rfl, hb5⟩))
 rename_i hH
 have HE := Lib.hid (HB.out.trans (hH.1.mono HB.out.size))
 clear hH hS hb5
 by_cases ht : tE = 0
 ·have qt : (tE == 0) = true := by simp [ht]
  obtain rfl := HD1.out ht
  clear ht
  go_wp2_with fail
  go_ret
  exact ⟨rfl, HE.out⟩
 ·have qt : (tE == 0) = false := by simp [ht]
  obtain rfl := HD2.out ht
  clear ht
  go_wp2_with fail
  go_ret
  exact ⟨rfl, HE.out⟩
end Go.Proofs.YtbbbflnnbbaamaaGreatDoor.PK
