/- The walk of loop. -/
import Derived.Test.YtmljmmnofhhheaaWQ
namespace Go.Proofs.Ytmljmmnofhhheaa
open Go.RowKit

theorem pairs_ne {w : World} {a : Option Addr} {ps : Pairs} {q : Nat} {T : NSet} (h : PairsIn w a ps) (hT : Ten w q T) : ∀ k, k < ps.length → ∀ b off, a = some ⟨b, off, none⟩ → b ≠ q := by
  rintro k hk b off rfl rfl
  obtain ⟨b', off', e, hc, _⟩ := h k hk
  simp only [Option.some.injEq, Addr.mk.injEq, and_true] at e
  obtain ⟨rfl, rfl⟩ := e
  rw [cell_of_row w b (off + k * 2) _ _ _ hT] at hc
  by_cases c : off + k * 2 < 10
  · rw [bools_get T _ c] at hc; cases hc
  · rw [Array.getElem?_eq_none (by show 10 ≤ off + k * 2; omega)] at hc; cases hc
theorem Save.pairs {q : Nat} {w w' : World} {a : Option Addr} {ps : Pairs} (h : Save q w w') (hn : PairsIn w a ps) (hne : ∀ k, k < ps.length → ∀ b off, a = some ⟨b, off, none⟩ → b ≠ q) : PairsIn w' a ps := fun k hk => by
  obtain ⟨b, off, rfl, h1, h2⟩ := hn k hk
  exact ⟨b, off, rfl, h.cell (hne k hk b off rfl) h1, h.cell (hne k hk b off rfl) h2⟩

set_option maxRecDepth 100000 in
set_option maxHeartbeats 4000000 in
theorem loop_any (a : Option Addr) (cap : Nat) (g : Gr) (head : Nat) (w : World) (hg : GraphIn w a g) (ok : OkG g) (hh : head < g.length) :
    Calls Try.prog 69 #[.slice a g.length cap, .int .i64 head] w fun e w' => e = .returned (tenV (loopS g (backsL g) head)) ∧ Below w.heap.size w w' := by
  have h10 := ok.ten
  have hF : ∀ e ∈ backsL g, rs g (-1) 0 e.1 = true := fun e he => by
    obtain ⟨x, y⟩ := e
    exact ((mem_edgesL ok).1 he).1
  have HFin : Hid (∀ S, LInv (backE g head (rs g (-1) 0)) head (backsL g) (backsL g).length S → S = loopS g (backsL g) head) := Lib.hid fun S h => h.loop hF
  have hFlt : ∀ e ∈ backsL g, e.1 < g.length := fun e he => (rs_iff.1 (hF e he)).lt ok.fits ok.pos
  have hFl : (backsL g).length ≤ 1000 := edgesL_len ok
  have HFm := Lib.hid (fun e (he : e ∈ backsL g) => And.intro (hF e he) (hFlt e he))
  have HReach : Hid (∀ w', Below w.heap.size w w' → Calls Try.prog 44 #[.slice a g.length cap, .int .i64 (-1)] w' fun e w'' => e = .returned (tenV (rs g (-1) 0)) ∧ Below w'.heap.size w' w'') := Lib.hid fun w' hb => reach_any a cap g (-1) w' (hg.below hb) ok
  have HBacks : Hid (∀ w', Below w.heap.size w w' → Calls Try.prog 63 #[.slice a g.length cap] w' (PairPost (backsL g) w')) := Lib.hid fun w' hb => backs_any a cap g w' (hg.below hb) ok
  have HTake := Lib.hid (fun pg ph qa qi pt all f => take_any w pg ph qa qi pt a cap head g all hg ok f)
  have HE : Hid (∀ all x, ¬ backE g head all head x) := Lib.hid fun all x h => h.1 rfl
  clear hF hFlt hg
  generalize backsL g = F at *
  generalize loopS g F head = R at *
  generalize rs g (-1) 0 = A at *
  go_enter Try.func69, Try.ntmps69
  go_wp2_with fail
  have hb0 : Below w.heap.size w (((w.alloc (.cells #[.slice a g.length cap] 22)).alloc (.cells #[.int .i64 head] 3)).alloc (.cells (bools fun _ => false) 54)) :=
    (((Below.refl _ _).alloc (Nat.le_refl _) _).alloc (by simp only [World.size_alloc]; omega) _).alloc (by simp only [World.size_alloc]; omega) _
  refine (HReach.out _ hb0).mono ?_; rintro e w1 ⟨rfl, hb1⟩
  have cg1 : w1.cell? ⟨w.heap.size, 0, none⟩ = some (.slice a g.length cap) := by rw [bc hb1 (b := w.heap.size) (by simp only [World.size_alloc]; omega)]; simp [go_sem]
  have ch1 : w1.cell? ⟨w.heap.size + 1, 0, none⟩ = some (.int .i64 head) := by rw [bc hb1 (b := w.heap.size + 1) (by simp only [World.size_alloc]; omega)]; simp [go_sem]
  have t41 : Ten w1 (w.heap.size + 1 + 1) (fun _ => false) := by
    unfold Ten
    rw [hb1.block _ (by simp only [World.size_alloc]; omega)]
    exact heap_at _ _ _ (by simp only [World.size_alloc])
  have HB1 := Lib.hid (hb0.trans (hb1.mono (by simp only [World.size_alloc]; omega)))
  have HT41 := Lib.hid t41
  have hs1 := hb1.size
  simp only [World.size_alloc] at hs1
  have hp0 : w.heap.size < w1.heap.size := by omega
  have hp1 : w.heap.size + 1 < w1.heap.size := by omega
  have hp2 : w.heap.size + 1 + 1 < w1.heap.size := by omega
  have hp3 : w.heap.size < w1.heap.size + 1 := by omega
  have hp4 : w.heap.size < w1.heap.size + 1 + 1 := by omega
  clear hb0 hb1 t41
  unfold tenV bools
  go_wp2_with fail
  generalize hw2 : (((w1.alloc (.cells #[.bool (A 0), .bool (A 1), .bool (A 2), .bool (A 3), .bool (A 4), .bool (A 5), .bool (A 6), .bool (A 7), .bool (A 8), .bool (A 9)] 54)).alloc (.cells #[.bool false, .bool false, .bool false, .bool false, .bool false, .bool false, .bool false, .bool false, .bool false, .bool false] 54)).alloc _) = w2
  have hb12 : Below w1.heap.size w1 w2 := by
    rw [← hw2]
    exact (((Below.refl _ _).alloc (Nat.le_refl _) _).alloc (by simp only [World.size_alloc]; omega) _).alloc (by simp only [World.size_alloc]; omega) _
  have hta : Ten w2 w1.heap.size A := by
    unfold Ten
    rw [← hw2, heap_past _ _ _ (by simp only [World.size_alloc]; omega), heap_past _ _ _ (by simp only [World.size_alloc]; omega)]
    exact heap_at _ _ _ rfl
  have hti : Ten w2 (w1.heap.size + 1) (fun _ => false) := by
    unfold Ten
    rw [← hw2, heap_past _ _ _ (by simp only [World.size_alloc]; omega)]
    exact heap_at _ _ _ (by simp only [World.size_alloc])
  have hcv : w2.cell? ⟨w1.heap.size + 1 + 1, 0, none⟩ = some (.func (.func 79) #[] #[.pointer (some ⟨w1.heap.size + 1, 0, none⟩), .pointer (some ⟨w1.heap.size, 0, none⟩), .pointer (some ⟨w.heap.size + 1, 0, none⟩), .pointer (some ⟨w.heap.size, 0, none⟩), .pointer (some ⟨w1.heap.size + 1 + 1, 0, none⟩)]) := by
    rw [← hw2]; simp [go_sem]
  clear hw2
  have hb2 := HB1.out.trans (hb12.mono HB1.out.size)
  have hcx : LCx w w2 w.heap.size (w.heap.size + 1) w1.heap.size (w1.heap.size + 1) (w1.heap.size + 1 + 1) a g.length cap head A :=
    ⟨hb2, by omega, keep cg1 hb12, keep ch1 hb12, hcv, hta, by omega, by omega, by omega, by omega⟩
  refine (HBacks.out _ hb2).mono ?_; rintro e w3 ⟨v3, rfl, hp3', hb3⟩
  obtain ⟨fa, fcap, rfl, hF⟩ := pairsIn_of hp3'
  have hcx3 := hcx.save (Save.of_below hb3)
  have hti3 := hti.below hb3
  have HCx := Lib.hid hcx3; have HTi := Lib.hid hti3; have HF := Lib.hid hF; have HT4 := Lib.hid ((HT41.out.below hb12).below hb3)
  have HNe := Lib.hid (pairs_ne hF hti3)
  clear hb12 hta hti hcv hcx hb2 hp3' hb3 hF hcx3 hti3 cg1 ch1 HT41
  have HTk := Lib.hid (fun f => HTake.out w.heap.size (w.heap.size + 1) w1.heap.size (w1.heap.size + 1) (w1.heap.size + 1 + 1) A f)
  clear HTake
  generalize hqi : w1.heap.size + 1 = qi at *
  generalize hqt : qi + 1 = pt at *
  generalize w1.heap.size = qa at *
  have hpq : w.heap.size < qi := by omega
  have hph : w.heap.size + 1 ≠ qi := by omega
  have HQi := Lib.hid hqi; have HQt := Lib.hid hqt
  clear hqi hqt hp3 hp4
  go_wp2_with fail
  go_loopw [16] (fun i wr => ∃ (k : Nat) (S : NSet), k ≤ F.length ∧ i = .int .i64 k ∧ LInv (backE g head A) head F k S ∧ Ten wr qi S ∧ Save qi w3 wr) (fun i _ => F.length - (intOf i).toNat)
  case atStart => exact ⟨0, _, Nat.zero_le _, rfl, LInv.zero, HTi.out, Save.refl _ _⟩
  case round =>
    obtain ⟨k, S, hk, rfl, hinv, hT, hsv⟩ := hrel
    by_cases hlt : k < F.length
    · obtain ⟨b, off, rfl, hc1, hc2⟩ := hsv.pairs HF.out HNe.out k hlt
      have hC := HCx.out.save hsv
      have hmem := HFm.out _ (getD_mem_any (0, 0) hlt)
      have hch := hC.ch
      have hcv := hC.cv
      have hal : Save qi wr (wr.alloc (.cells #[.int .i64 ((F.getD k (0, 0)).1 : Nat), .int .i64 ((F.getD k (0, 0)).2 : Nat)] 50)) := Save.of_below ((Below.refl _ _).alloc (Nat.le_refl _) _)
      have hC1 := hC.save hal
      have hch1 := hC1.ch
      have hphl := block_lt_of_cell hC.ch
      have hqil : qi < wr.heap.size := hT.lt
      have hptl := block_lt_of_cell hC.cv
      have HSk := Lib.hid (hinv.skip (i := k))
      have HNx := Lib.hid (fun h S' d => hinv.next (ok := A) (i := k) (S' := S') (HE.out A) h hmem.1 d)
      have HMem := Lib.hid hmem
      have HT := Lib.hid hT; have HSv := Lib.hid hsv; have HC := Lib.hid hC; have HAl := Lib.hid hal; have HC1 := Lib.hid hC1
      clear hinv hT hsv hmem hC hal hC1 hch1
      generalize F.getD k (0, 0) = e at *
      obtain ⟨x, y⟩ := e
      have hc1 : wr.cell? ⟨b, off + k * 2, none⟩ = some (.int .i64 (x : Nat)) := hc1
      have hc2 : wr.cell? ⟨b, off + k * 2 + 1, none⟩ = some (.int .i64 (y : Nat)) := hc2
      by_cases hy : y = head
      · subst hy
        have hyb : ((y : Int) == (y : Int)) = true := by simp
        have hy10 : y < 10 := by omega
        have f1 := HT.out.free y
        have d1 := HT.out.cell hy10
        have hal2 : Below (wr.setCell ⟨qi, y, none⟩ (.bool true)).heap.size (wr.setCell ⟨qi, y, none⟩ (.bool true)) ((wr.setCell ⟨qi, y, none⟩ (.bool true)).alloc (.cells #[.int .i64 (x : Nat), .int .i64 (y : Nat)] 50)) := (Below.refl _ _).alloc (Nat.le_refl _) _
        have hT2 := (HT.out.mark hy10).below hal2
        have hs2 := (Save.set qi y wr (.bool true)).trans (Save.of_below hal2)
        have hszs : (wr.setCell ⟨qi, y, none⟩ (.bool true)).heap.size = wr.heap.size := by simp [World.setCell]
        have hC2 := HC.out.save hs2
        have hcv2 := hC2.cv
        have hTk := HTk.out 11 x _ _ (by have := cnt_ten (Proofs.Ytmljmmnofhhheaa.mark S y); omega) HMem.out.2 hC2 hT2
        have HTk1 := Lib.hid hTk; have HS2 := Lib.hid hs2
        clear hT2 hs2 hC2 hTk hal2
        go_wp2_with fail
        refine HTk1.out.mono ?_; rintro e w4 ⟨rfl, S2, hd2, hT2, hs2⟩
        have HNx1 := Lib.hid (HNx.out (by simp) S2 hd2); have HT2 := Lib.hid hT2; have HSv2 := Lib.hid (HSv.out.trans (HS2.out.trans hs2))
        clear hd2 hT2 hs2
        go_wp2_with fail
        go_roundw
        case rel => exact ⟨k + 1, S2, by omega, by go_num, HNx1.out, HT2.out, HSv2.out⟩
        case measure => simp [intOf]; omega
      · have hyb : ((y : Int) == (head : Int)) = false := by simp; omega
        have HSk1 := Lib.hid (HSk.out hy)
        go_wp2_with fail
        go_roundw
        case rel => exact ⟨k + 1, S, by omega, by go_num, HSk1.out, HT.out.below ((Below.refl _ _).alloc (Nat.le_refl _) _), HSv.out.trans HAl.out⟩
        case measure => simp [intOf]; omega
    · obtain rfl : k = F.length := by omega
      obtain rfl := HFin.out S hinv
      have hqi1 := HQi.out
      have hD2 : Ten wr (w.heap.size + 1 + 1) (fun _ => false) := hsv.ten (by omega) HT4.out
      have c0 := hT.cell (k := 0) (by decide); have c1 := hT.cell (k := 1) (by decide); have c2 := hT.cell (k := 2) (by decide); have c3 := hT.cell (k := 3) (by decide); have c4 := hT.cell (k := 4) (by decide)
      have c5 := hT.cell (k := 5) (by decide); have c6 := hT.cell (k := 6) (by decide); have c7 := hT.cell (k := 7) (by decide); have c8 := hT.cell (k := 8) (by decide); have c9 := hT.cell (k := 9) (by decide)
      have d0 := hD2.cell (k := 0) (by decide); have d1 := hD2.cell (k := 1) (by decide); have d2 := hD2.cell (k := 2) (by decide); have d3 := hD2.cell (k := 3) (by decide); have d4 := hD2.cell (k := 4) (by decide)
      have d5 := hD2.cell (k := 5) (by decide); have d6 := hD2.cell (k := 6) (by decide); have d7 := hD2.cell (k := 7) (by decide); have d8 := hD2.cell (k := 8) (by decide); have d9 := hD2.cell (k := 9) (by decide)
      have f0 := hD2.free 0; have f1 := hD2.free 1; have f2 := hD2.free 2; have f3 := hD2.free 3; have f4 := hD2.free 4
      have f5 := hD2.free 5; have f6 := hD2.free 6; have f7 := hD2.free 7; have f8 := hD2.free 8; have f9 := hD2.free 9
      have HD2 := Lib.hid hD2
      have HB0 := Lib.hid (HCx.out.b0.trans (hsv.below (B := w.heap.size) (by omega) HCx.out.b0.size))
      clear hinv hT hsv hD2
      go_wp2_with fail
      have T3 := HD2.out.fill S
      have To3 := Touch.fill wr (w.heap.size + 1 + 1) S
      show bodyPost _ _ _ _ _ (fill wr (w.heap.size + 1 + 1) S)
      generalize fill wr (w.heap.size + 1 + 1) S = w5 at *
      exact bodyPost_ret (v := tenV S) (results_ten (p := 4) rfl _ _ _ _ rfl T3) rfl ⟨rfl, HB0.out.trans (To3.below (by omega))⟩
end Go.Proofs.Ytmljmmnofhhheaa
