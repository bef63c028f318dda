/- The walk of sorted of the document. -/
import Derived.Test.YtmhneonebjcieaaSQ
import Derived.Test.YtmhneonebjcieaaSH
import Derived.Deep.RegionHeld3
import Derived.Deep.MidRow
import Derived.Deep.Cut
namespace Go.Proofs.Ytmhneonebjcieaa
open Go.RowKit

theorem encPl_setp : ∀ (l : List Pl) (k : Nat) (p : Pl), k < l.length → encPl (l.set k p) = (((((encPl l).set (k * 5) (.int .i64 p.fr)).set (k * 5 + 1) (.int .i64 p.to)).set (k * 5 + 2) (.int .i64 p.va)).set (k * 5 + 3) (.int .i64 p.ki)).set (k * 5 + 4) (.int .i64 p.nn)
  | q :: l, 0, p, _ => rfl
  | q :: l, k + 1, p, h => by
    have ih := encPl_setp l k p (by simpa using h)
    show (_ :: _ :: _ :: _ :: _ :: encPl (l.set k p)) = (((((_ :: _ :: _ :: _ :: _ :: encPl l).set ((k + 1) * 5) _).set ((k + 1) * 5 + 1) _).set ((k + 1) * 5 + 2) _).set ((k + 1) * 5 + 3) _).set ((k + 1) * 5 + 4) _
    rw [show (k + 1) * 5 + 4 = k * 5 + 4 + 1 + 1 + 1 + 1 + 1 by omega, show (k + 1) * 5 + 3 = k * 5 + 3 + 1 + 1 + 1 + 1 + 1 by omega, show (k + 1) * 5 + 2 = k * 5 + 2 + 1 + 1 + 1 + 1 + 1 by omega, show (k + 1) * 5 + 1 = k * 5 + 1 + 1 + 1 + 1 + 1 + 1 by omega, show (k + 1) * 5 = k * 5 + 1 + 1 + 1 + 1 + 1 by omega]
    simp only [List.set_cons_succ]
    rw [ih]
theorem encPl_swap (L : List Pl) (m : Nat) (h : m + 1 < L.length) (x0 x1 x2 x3 x4 y0 y1 y2 y3 y4 : Int) (hx : at' L (m + 1) = ⟨x0, x1, x2, x3, x4⟩) (hy : at' L m = ⟨y0, y1, y2, y3, y4⟩) :
    encPl (swapP L m) = ((((((((((encPl L).set ((m + 1) * 5) (.int .i64 y0)).set ((m + 1) * 5 + 1) (.int .i64 y1)).set ((m + 1) * 5 + 2) (.int .i64 y2)).set ((m + 1) * 5 + 3) (.int .i64 y3)).set ((m + 1) * 5 + 4) (.int .i64 y4)).set (m * 5) (.int .i64 x0)).set (m * 5 + 1) (.int .i64 x1)).set (m * 5 + 2) (.int .i64 x2)).set (m * 5 + 3) (.int .i64 x3)).set (m * 5 + 4) (.int .i64 x4) := by
  unfold swapP
  rw [hx, hy, encPl_setp _ m _ (by simp; omega), encPl_setp _ (m + 1) _ h]
theorem one5a (a b c d e : Int) : (#[.int .i64 a, .int .i64 b, .int .i64 c, .int .i64 d, .int .i64 e] : Array Value).all (·.oneCell') = true := by simp [Value.oneCell']
theorem size5 : (Try.prog.info? 38).map (·.size) = some 5 := by kernel_rfl
theorem plAt_new5 (w : World) (x0 x1 x2 x3 x4 : Int) : PlAt (w.alloc (.cells #[.int .i64 x0, .int .i64 x1, .int .i64 x2, .int .i64 x3, .int .i64 x4] 38)) w.heap.size 0 ⟨x0, x1, x2, x3, x4⟩ := ⟨by simp [go_sem], by simp [go_sem], by simp [go_sem], by simp [go_sem], by simp [go_sem]⟩
theorem there_pl {w : World} {g o : Nat} {p : Pl} (h : PlAt w g o p) (hf : ∀ j, w.frozen? ⟨g, j, none⟩ = false) : w.there g o 5 := fun j hj => ⟨by
  have : j = 0 ∨ j = 1 ∨ j = 2 ∨ j = 3 ∨ j = 4 := by omega
  rcases this with rfl | rfl | rfl | rfl | rfl
  · rw [Nat.add_zero, h.c0]; rfl
  · rw [h.c1]; rfl
  · rw [h.c2]; rfl
  · rw [h.c3]; rfl
  · rw [h.c4]; rfl, hf _⟩
theorem plAt_setCells {w : World} {q g o : Nat} {p : Pl} {vs : List Value} (h : PlAt w q 0 p) (hq : q ≠ g) : PlAt (w.setCells g o vs) q 0 p := by
  have e : ∀ j, (w.setCells g o vs).cell? ⟨q, j, none⟩ = w.cell? ⟨q, j, none⟩ := fun j => World.cell?_setCells_out g vs o w ⟨q, j, none⟩ fun hb _ => absurd hb hq
  exact ⟨by rw [e]; exact h.c0, by rw [e]; exact h.c1, by rw [e]; exact h.c2, by rw [e]; exact h.c3, by rw [e]; exact h.c4⟩
theorem below_setCells {B g : Nat} {w : World} (hg : B ≤ g) : ∀ (vs : List Value) (o : Nat) (w' : World), Below B w w' → Below B w (w'.setCells g o vs)
  | [], _, _, h => h
  | v :: vs, o, w', h => below_setCells hg vs (o + 1) _ (h.trans (below_setCell w' hg v))
theorem owns_swap {w : World} {B g k uc m : Nat} {L L' : List Pl} {x0 x1 x2 x3 x4 y0 y1 y2 y3 y4 : Int} (h : w.ownsRow B 38 5 (.slice (some ⟨g, 0, none⟩) (k + 1) uc) (k + 1) (encPl L))
    (he : encPl L' = ((((((((((encPl L).set ((m + 1) * 5) (.int .i64 y0)).set ((m + 1) * 5 + 1) (.int .i64 y1)).set ((m + 1) * 5 + 2) (.int .i64 y2)).set ((m + 1) * 5 + 3) (.int .i64 y3)).set ((m + 1) * 5 + 4) (.int .i64 y4)).set (m * 5) (.int .i64 x0)).set (m * 5 + 1) (.int .i64 x1)).set (m * 5 + 2) (.int .i64 x2)).set (m * 5 + 3) (.int .i64 x3)).set (m * 5 + 4) (.int .i64 x4)) :
    ((w.setCells g ((m + 1) * 5) #[.int .i64 y0, .int .i64 y1, .int .i64 y2, .int .i64 y3, .int .i64 y4].toList).setCells g (m * 5) #[.int .i64 x0, .int .i64 x1, .int .i64 x2, .int .i64 x3, .int .i64 x4].toList).ownsRow B 38 5 (.slice (some ⟨g, 0, none⟩) (k + 1) uc) (k + 1) (encPl L') := by
  rw [he]
  exact owns_set (owns_set (owns_set (owns_set (owns_set (owns_set (owns_set (owns_set (owns_set (owns_set h _ _) _ _) _ _) _ _) _ _) _ _) _ _) _ _) _ _) _ _
set_option maxRecDepth 100000 in
set_option maxHeartbeats 4000000 in
theorem sorted_any (l : List Pl) (a : Option Addr) (cap : Nat) (w : World) (hin : PlsIn w a l) (hl : l.length ≤ 1000) :
    Calls Try.prog 49 #[.slice a l.length cap] w fun e w' => (∃ v, e = .returned v ∧ w'.ownsRow w.heap.size 38 5 v l.length (encPl (sortP l))) ∧ Below w.heap.size w w' := by
  have HI := Lib.hid hin
  clear hin
  have HFull := Lib.hid (insK_full l)
  generalize hB : w.heap.size = B at *
  have HBq := Lib.hid hB; clear hB
  obtain ⟨i0, hi, ip0, ip1, ip2⟩ := info_parts Try.infoPlace
  have hrefl : Below B w w := Below.refl _ _
  have HRefl := Lib.hid hrefl; clear hrefl
  go_enter Try.func49, Try.ntmps49
  go_wp2_with fail
  go_loopw [3, 4] (fun u i wr => ∃ k : Nat, k ≤ l.length ∧ i = .int .i64 k ∧ wr.ownsRow B 38 5 u k (encPl (insK l k)) ∧ Below B w wr) (fun _ i _ => l.length - (intOf i).toNat)
  case atStart => exact ⟨0, Nat.zero_le _, rfl, ⟨rfl, .inl ⟨rfl, rfl⟩⟩, HRefl.out⟩
  case round =>
    obtain ⟨k, hk, rfl, ho, hb⟩ := hrel
    obtain ⟨va, vc, rfl⟩ := owns_shape ho
    by_cases hlt : k < l.length
    · have hki : (k : Int) < (l.length : Int) := by omega
      have hk0 : (0 : Int) ≤ (k : Int) := by omega
      obtain ⟨b, off, rfl, hpl⟩ := HI.out.below (by rw [HBq.out]; exact hb) k hlt
      have hnx := insK_next hlt
      have hil := insK_len l k (by omega)
      have HO := Lib.hid ho; have HB := Lib.hid hb; have HSn := Lib.hid hnx
      obtain ⟨c0, c1, c2, c3, c4⟩ := hpl
      clear ho hb hnx
      generalize insK l k = acc at *
      generalize hxx : at' l k = x at *
      have HXx := Lib.hid hxx; clear hxx
      have HIns : Hid (swapDown (acc ++ [x]) k = insP acc x) := Lib.hid (by unfold insP; rw [hil])
      have HLenA : Hid ((acc ++ [x]).length = k + 1) := Lib.hid (by simp [hil])
      obtain ⟨X0, X1, X2, X3, X4⟩ := x
      have HAppE : Hid (encPl acc ++ [.int .i64 X0, .int .i64 X1, .int .i64 X2, .int .i64 X3, .int .i64 X4] = encPl (acc ++ [⟨X0, X1, X2, X3, X4⟩])) := Lib.hid (encPl_snoc acc ⟨X0, X1, X2, X3, X4⟩).symm
      simp only at c0 c1 c2 c3 c4
      have HS63 : Hid (k + 1 ≤ maxLen) := Lib.hid (by unfold maxLen; omega)
      have HSb : Hid ((k + 1) * 40 ≤ 140737488355328) := Lib.hid (by omega)
      have HBz : Hid (B ≤ w.heap.size) := Lib.hid (Nat.le_of_eq HBq.out.symm)
      have HB2 := Lib.hid (HB.out.alloc (Nat.le_trans HBz.out HB.out.size) (.cells #[.int .i64 X0, .int .i64 X1, .int .i64 X2, .int .i64 X3, .int .i64 X4] 38))
      have HZ2 : Hid (B ≤ (wr.alloc (.cells #[.int .i64 X0, .int .i64 X1, .int .i64 X2, .int .i64 X3, .int .i64 X4] 38)).heap.size) := Lib.hid (Nat.le_trans HBz.out HB2.out.size)
      have HO2 := Lib.hid (HO.out.alloc (.cells #[.int .i64 X0, .int .i64 X1, .int .i64 X2, .int .i64 X3, .int .i64 X4] 38))
      have HNew := Lib.hid (cell_five_new wr (.int .i64 X0) (.int .i64 X1) (.int .i64 X2) (.int .i64 X3) (.int .i64 X4) 38)
      clear hil
      go_wp2_with (at_builtin; refine wpList_append_own_at _ rfl _ _ 22 rfl B 38 i0 (.agg #[.int .i64 0, .int .i64 0, .int .i64 0, .int .i64 0, .int .i64 0]) 5 40 Try.underlying22 hi ip0 ip1 ip2 rfl (by decide) _ _ _ rfl HO2.out ⟨wr.heap.size, 0, none⟩ 1 1 [.int .i64 X0, .int .i64 X1, .int .i64 X2, .int .i64 X3, .int .i64 X4] rfl rfl HNew.out (one_cells5 _ _ _ _ _) HS63.out HSb.out HZ2.out ?_; intro v9 w9 hown9 hgrow9 _ hat9; have HB9 := Lib.hid (HB2.out.grown hgrow9 HZ2.out (fun g hg => (owns_block HO2.out hg).1)); rw [HAppE.out] at hown9; obtain ⟨ua, uc, rfl⟩ := owns_shape hown9; have HO9 := Lib.hid hown9; clear hown9 hgrow9 hat9)
      generalize acc ++ [(⟨X0, X1, X2, X3, X4⟩ : Pl)] = L0 at *
      go_loopw [5] (fun i wr => ∃ (j : Nat) (L : List Pl), i = .int .i64 j ∧ j ≤ k ∧ L.length = k + 1 ∧ swapDown L j = swapDown L0 k ∧ wr.ownsRow B 38 5 (.slice ua (k + 1) uc) (k + 1) (encPl L) ∧ Below B w wr) (fun i _ => (intOf i).toNat)
      case atStart => exact ⟨k, L0, by go_num, Nat.le_refl _, HLenA.out, rfl, HO9.out, HB9.out⟩
      case round =>
        obtain ⟨j, L, rfl, hjk, hLl, hsw, ho, hb⟩ := hrel
        cases j with
        | zero =>
          have hsw : L = swapDown L0 k := hsw
          rw [hsw, HIns.out, ← HSn.out] at ho
          have HO3 := Lib.hid ho; have HB3 := Lib.hid hb
          clear ho hb hsw hLl
          go_wp2_with fail
          go_quiet (fail)
          go_wp2_with fail
          go_roundw
          case rel => exact ⟨k + 1, by omega, by go_num, HO3.out, below_drewN HB3.out _⟩
          case measure => simp [intOf]; omega
        | succ m =>
          obtain ⟨g, gc, he, hgc, hgb, hgs, hpx, hfz, _⟩ := owns_row5 (by rw [hLl]; exact ho) (k := m + 1) (by omega)
          obtain ⟨g', gc', he', _, _, _, hpy, _, _⟩ := owns_row5 (by rw [hLl]; exact ho) (k := m) (by omega)
          rw [he] at he'
          simp only [Value.slice.injEq, Option.some.injEq, Addr.mk.injEq, and_true, true_and] at he'
          obtain ⟨rfl, rfl⟩ := he'
          rw [hLl] at he
          simp only [Value.slice.injEq, true_and] at he
          obtain ⟨rfl, rfl⟩ := he
          have HFz := Lib.hid hfz
          have HSt : Hid (swapDown L (m + 1) = if ltP (at' L (m + 1)) (at' L m) then swapDown (swapP L m) m else L) := Lib.hid rfl
          have HEn := Lib.hid (encPl_swap L m (by omega))
          have HSl : Hid ((swapP L m).length = k + 1) := Lib.hid ((swapP_len L m).trans hLl)
          generalize hx : at' L (m + 1) = x at *
          generalize hy : at' L m = y at *
          obtain ⟨x0, x1, x2, x3, x4⟩ := x
          obtain ⟨y0, y1, y2, y3, y4⟩ := y
          have HEn := Lib.hid (HEn.out x0 x1 x2 x3 x4 y0 y1 y2 y3 y4 rfl rfl)
          obtain ⟨c0, c1, c2, c3, c4⟩ := hpx
          obtain ⟨d0, d1, d2, d3, d4⟩ := hpy
          simp only at c0 c1 c2 c3 c4 d0 d1 d2 d3 d4
          have HSw := Lib.hid hsw; have HO3 := Lib.hid ho; have HB3 := Lib.hid hb; have HLl := Lib.hid hLl
          clear hsw ho hb hfz hx hy hLl
          have hm1 : (0 : Int) < (m : Int) + 1 := by omega
          have hm2 : (0 : Int) ≤ (m : Int) + 1 := by omega
          have hm3 : (m : Int) + 1 < (k : Int) + 1 := by omega
          have hm4 : (m : Int) < (k : Int) + 1 := by omega
          have hm0 : (0 : Int) ≤ (m : Int) := by omega
          have hw1 : IntKind.i64.wrap ((m : Int) + 1 - 1) = (m : Int) := by rw [show (m : Int) + 1 - 1 = (m : Int) by omega]; exact IntWalk.i64_in _ (by omega)
          have hsub2 : IntKind.i64.wrap (m : Int) = (m : Int) := IntWalk.i64_in _ (by omega)
          have htn : ((m : Int) + 1).toNat = m + 1 := by omega
          have hmn : m < k + 1 := by omega
          cases hlt2 : ltP ⟨x0, x1, x2, x3, x4⟩ ⟨y0, y1, y2, y3, y4⟩
          · have HLt := Lib.hid hlt2
            clear hlt2
            have HCc := Lib.hid (before_is HLt.out)
            have HCC : Hid (∀ w, Calls Try.prog 54 #[.agg #[.int .i64 x0, .int .i64 x1, .int .i64 x2, .int .i64 x3, .int .i64 x4], .agg #[.int .i64 y0, .int .i64 y1, .int .i64 y2, .int .i64 y3, .int .i64 y4]] w fun e w' => e = .returned (.bool false) ∧ Below w.heap.size w w') := HCc
            clear HCc
            go_wp2_with fail
            go_region_held3 (fun w' => w'.cell? ⟨g, (m + 1) * 5, none⟩ = some (.int .i64 x0) ∧ w'.cell? ⟨g, (m + 1) * 5 + 1, none⟩ = some (.int .i64 x1) ∧ w'.cell? ⟨g, (m + 1) * 5 + 2, none⟩ = some (.int .i64 x2) ∧ w'.cell? ⟨g, (m + 1) * 5 + 3, none⟩ = some (.int .i64 x3) ∧ w'.cell? ⟨g, (m + 1) * 5 + 4, none⟩ = some (.int .i64 x4) ∧ w'.cell? ⟨g, m * 5, none⟩ = some (.int .i64 y0) ∧ w'.cell? ⟨g, m * 5 + 1, none⟩ = some (.int .i64 y1) ∧ w'.cell? ⟨g, m * 5 + 2, none⟩ = some (.int .i64 y2) ∧ w'.cell? ⟨g, m * 5 + 3, none⟩ = some (.int .i64 y3) ∧ w'.cell? ⟨g, m * 5 + 4, none⟩ = some (.int .i64 y4))
              (first | exact ⟨c0, c1, c2, c3, c4, d0, d1, d2, d3, d4⟩ | exact ⟨keep c0 (by assumption), keep c1 (by assumption), keep c2 (by assumption), keep c3 (by assumption), keep c4 (by assumption), keep d0 (by assumption), keep d1 (by assumption), keep d2 (by assumption), keep d3 (by assumption), keep d4 (by assumption)⟩)
              ((go_at_call 54; refine (HCC.out _).mono ?_; rintro e w2 ⟨rfl, hb2⟩; have hb2 := below_of_drew hb2))
            have HB4 := Lib.hid (HB3.out.trans (hb2.mono (Nat.le_trans HBz.out HB3.out.size)))
            have HO4 := Lib.hid (owns_below HO3.out hb2)
            clear hb2 hw1 hsub2 htn
            go_wp2_with fail
            go_roundw
            case rel => exact ⟨k + 1, by omega, by go_num, by rw [HSn.out, ← HIns.out, ← HSw.out, HSt.out, HLt.out]; exact HO4.out, HB4.out⟩
            case measure => simp [intOf]; omega
          · have HLt := Lib.hid hlt2
            clear hlt2
            have HCc := Lib.hid (before_is HLt.out)
            have HCC : Hid (∀ w, Calls Try.prog 54 #[.agg #[.int .i64 x0, .int .i64 x1, .int .i64 x2, .int .i64 x3, .int .i64 x4], .agg #[.int .i64 y0, .int .i64 y1, .int .i64 y2, .int .i64 y3, .int .i64 y4]] w fun e w' => e = .returned (.bool true) ∧ Below w.heap.size w w') := HCc
            clear HCc
            go_wp2_with fail
            go_region_held3 (fun w' => w'.cell? ⟨g, (m + 1) * 5, none⟩ = some (.int .i64 x0) ∧ w'.cell? ⟨g, (m + 1) * 5 + 1, none⟩ = some (.int .i64 x1) ∧ w'.cell? ⟨g, (m + 1) * 5 + 2, none⟩ = some (.int .i64 x2) ∧ w'.cell? ⟨g, (m + 1) * 5 + 3, none⟩ = some (.int .i64 x3) ∧ w'.cell? ⟨g, (m + 1) * 5 + 4, none⟩ = some (.int .i64 x4) ∧ w'.cell? ⟨g, m * 5, none⟩ = some (.int .i64 y0) ∧ w'.cell? ⟨g, m * 5 + 1, none⟩ = some (.int .i64 y1) ∧ w'.cell? ⟨g, m * 5 + 2, none⟩ = some (.int .i64 y2) ∧ w'.cell? ⟨g, m * 5 + 3, none⟩ = some (.int .i64 y3) ∧ w'.cell? ⟨g, m * 5 + 4, none⟩ = some (.int .i64 y4))
              (first | exact ⟨c0, c1, c2, c3, c4, d0, d1, d2, d3, d4⟩ | exact ⟨keep c0 (by assumption), keep c1 (by assumption), keep c2 (by assumption), keep c3 (by assumption), keep c4 (by assumption), keep d0 (by assumption), keep d1 (by assumption), keep d2 (by assumption), keep d3 (by assumption), keep d4 (by assumption)⟩)
              ((go_at_call 54; refine (HCC.out _).mono ?_; rintro e w2 ⟨rfl, hb2⟩; have hb2 := below_of_drew hb2))
            have HB4 := Lib.hid (HB3.out.trans (hb2.mono (Nat.le_trans HBz.out HB3.out.size)))
            have HO4 := Lib.hid (owns_below HO3.out hb2)
            have hgs2 : g < w2.heap.size := Nat.lt_of_lt_of_le hgs hb2.size
            have hfz4 : ∀ j, w2.frozen? ⟨g, j, none⟩ = false := fun j => by rw [World.frozen?_of_block (w := wr) (hb2.block g hgs)]; exact HFz.out j
            have hpy2 : PlAt w2 g (m * 5) ⟨y0, y1, y2, y3, y4⟩ := ⟨keep d0 hb2, keep d1 hb2, keep d2 hb2, keep d3 hb2, keep d4 hb2⟩
            have hpx2 : PlAt w2 g ((m + 1) * 5) ⟨x0, x1, x2, x3, x4⟩ := ⟨keep c0 hb2, keep c1 hb2, keep c2 hb2, keep c3 hb2, keep c4 hb2⟩
            have HPx2 := Lib.hid hpx2; have HPy2 := Lib.hid hpy2; have HFz4 := Lib.hid hfz4
            have HBw2 : Hid (B ≤ w2.heap.size) := Lib.hid (Nat.le_trans hgb (Nat.le_of_lt hgs2))
            obtain ⟨c0, c1, c2, c3, c4⟩ := hpx2
            clear hb2 hfz4 hpy2 hw1 hsub2 htn
            go_upto_region 10 with (fail)
            have HB5 := Lib.hid (HB4.out.alloc HBw2.out (.cells #[.int .i64 x0, .int .i64 x1, .int .i64 x2, .int .i64 x3, .int .i64 x4] 38))
            have HO5 := Lib.hid (HO4.out.alloc (.cells #[.int .i64 x0, .int .i64 x1, .int .i64 x2, .int .i64 x3, .int .i64 x4] 38))
            have HBox5 := Lib.hid (plAt_new5 w2 x0 x1 x2 x3 x4)
            have hal : Below w2.heap.size w2 (w2.alloc (.cells #[.int .i64 x0, .int .i64 x1, .int .i64 x2, .int .i64 x3, .int .i64 x4] 38)) := (Below.refl _ _).alloc (Nat.le_refl _) _
            have hpy3 := HPy2.out.keep hal
            have HThX := Lib.hid (there_pl (HPx2.out.keep hal) (fun j => by rw [World.frozen?_of_block (w := w2) (hal.block g hgs2)]; exact HFz4.out j))
            have HThY := Lib.hid (there_pl hpy3 (fun j => by rw [World.frozen?_of_block (w := w2) (hal.block g hgs2)]; exact HFz4.out j))
            obtain ⟨d0, d1, d2, d3, d4⟩ := hpy3
            have hgq : g ≠ w2.heap.size := by omega
            clear hal
            generalize w2.alloc (.cells #[.int .i64 x0, .int .i64 x1, .int .i64 x2, .int .i64 x3, .int .i64 x4] 38) = w3 at *
            generalize w2.heap.size = q at *
            have HF4 : Hid (∀ W, w3.setCells g ((m + 1) * 5) #[.int .i64 y0, .int .i64 y1, .int .i64 y2, .int .i64 y3, .int .i64 y4].toList = W → PlAt W q 0 ⟨x0, x1, x2, x3, x4⟩ ∧ W.there g (m * 5) 5 ∧ W.setCells g (m * 5) #[.int .i64 x0, .int .i64 x1, .int .i64 x2, .int .i64 x3, .int .i64 x4].toList = (w3.setCells g ((m + 1) * 5) #[.int .i64 y0, .int .i64 y1, .int .i64 y2, .int .i64 y3, .int .i64 y4].toList).setCells g (m * 5) #[.int .i64 x0, .int .i64 x1, .int .i64 x2, .int .i64 x3, .int .i64 x4].toList) := Lib.hid fun W hW => by
              subst hW
              exact ⟨plAt_setCells HBox5.out hgq.symm, World.there_setCells HThY.out g _ _, rfl⟩
            have HO6 := Lib.hid (owns_swap HO5.out HEn.out)
            have HB6 := Lib.hid (below_setCells hgb #[.int .i64 x0, .int .i64 x1, .int .i64 x2, .int .i64 x3, .int .i64 x4].toList (m * 5) _ (below_setCells hgb #[.int .i64 y0, .int .i64 y1, .int .i64 y2, .int .i64 y3, .int .i64 y4].toList ((m + 1) * 5) _ HB5.out))
            have hw1 := IntWalk.i64_in (m : Int) (by omega)
            go_upto_region 11 with (refine wpList_store_mid rfl 38 _ _ rfl g ((m + 1) * 5) #[.int .i64 y0, .int .i64 y1, .int .i64 y2, .int .i64 y3, .int .i64 y4] rfl rfl HThX.out size5 (one5a _ _ _ _ _) ?_; generalize hw4 : World.setCells _ _ _ _ = w4; obtain ⟨hp4, ht4, ho4⟩ := HF4.out _ hw4; have HT4 := Lib.hid ht4; have HEq4 := Lib.hid ho4; obtain ⟨z0, z1, z2, z3, z4⟩ := hp4; clear hw4 ht4 ho4)
            have HF5 : Hid (∀ W, w4.setCells g (m * 5) #[.int .i64 x0, .int .i64 x1, .int .i64 x2, .int .i64 x3, .int .i64 x4].toList = W → W.ownsRow B 38 5 (.slice (some ⟨g, 0, none⟩) (k + 1) uc) (k + 1) (encPl (swapP L m)) ∧ Below B w W) := Lib.hid fun W hW => by
              rw [HEq4.out] at hW
              subst hW
              exact ⟨HO6.out, HB6.out⟩
            go_wp2_with (refine wpList_store_mid rfl 38 _ _ rfl g (m * 5) #[.int .i64 x0, .int .i64 x1, .int .i64 x2, .int .i64 x3, .int .i64 x4] rfl rfl HT4.out size5 (one5a _ _ _ _ _) ?_; generalize hw5 : World.setCells _ _ _ _ = w5; obtain ⟨ho5, hb5⟩ := HF5.out _ hw5; have HO7 := Lib.hid ho5; have HB7 := Lib.hid hb5; clear hw5 ho5 hb5)
            go_roundw
            case rel => exact ⟨m, swapP L m, by go_num, by omega, HSl.out, by rw [← HSw.out, HSt.out, HLt.out]; rfl, HO7.out, HB7.out⟩
            case measure => simp [intOf]
    · obtain rfl : k = l.length := by omega
      have hki : ¬ (l.length : Int) < (l.length : Int) := by omega
      rw [HFull.out] at ho
      have HO := Lib.hid ho; have HB := Lib.hid hb
      clear ho hb
      go_wp2_with fail
      go_ret
      exact ⟨⟨_, rfl, HO.out⟩, HB.out⟩
end Go.Proofs.Ytmhneonebjcieaa
