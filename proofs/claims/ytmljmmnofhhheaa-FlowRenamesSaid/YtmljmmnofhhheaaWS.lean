/- The walk of the document's loop. -/
import Derived.Test.YtmljmmnofhhheaaWR
import Derived.RegionTactic
import Derived.Deep.RegionWith
import Derived.Deep.RegionHeld3
namespace Go.Proofs.Ytmljmmnofhhheaa
open Go.RowKit

theorem take_snocP {xs : Pairs} {k : Nat} (h : k < xs.length) : xs.take (k + 1) = xs.take k ++ [xs.getD k (0, 0)] := by
  rw [List.take_succ_eq_append_getElem h]
  simp [List.getD_eq_getElem?_getD, List.getElem?_eq_getElem h]
theorem pairs_neB {w : World} {a : Option Addr} {ps : Pairs} {q n : Nat} {T : NSet} (h : PairsIn w a ps) (hT : BRow w q n T) : ∀ k, k < ps.length → ∀ b off, a = some ⟨b, off, none⟩ → b ≠ q := by
  rintro k hk b off rfl rfl
  obtain ⟨b', off', e, hc, _⟩ := h k hk
  simp only [Option.some.injEq, Addr.mk.injEq, and_true] at e
  obtain ⟨rfl, rfl⟩ := e
  by_cases c : off + k * 2 < n
  · rw [hT.cell c] at hc; cases hc
  · rw [cell_of_row w b (off + k * 2) _ _ _ hT, Array.getElem?_eq_none (by rw [boolArr_size]; omega)] at hc; cases hc
/-- The nodes that one edge brings into the loop. -/
noncomputable def condL (g : Gr) (head x : Nat) : NSet := fun v => decide (v ≠ head) && rs g (-1) 0 v && rs g (head : Nat) v x
def inn (S c : NSet) (v : Nat) : NSet := fun j => S j || (decide (j < v) && c j)
theorem inn_zero (S c : NSet) : inn S c 0 = S := by funext j; simp [inn]
theorem inn_yes {S c : NSet} {v : Nat} (h : c v = true) : mark (inn S c v) v = inn S c (v + 1) := by
  funext j
  unfold mark inn
  by_cases e : j = v
  · subst e; simp [h]
  · have : decide (j < v + 1) = decide (j < v) := by rw [decide_eq_decide]; omega
    simp [e, this]
theorem inn_no {S c : NSet} {v : Nat} (h : c v = false) : inn S c (v + 1) = inn S c v := by
  funext j
  unfold inn
  by_cases e : j = v
  · subst e; simp [h]
  · have : decide (j < v + 1) = decide (j < v) := by rw [decide_eq_decide]; omega
    simp [this]
theorem loopS_zero (g : Gr) (B : Pairs) (head : Nat) : loopS g (B.take 0) head = fun _ => false := by
  funext j
  rw [← Bool.not_eq_true, loopS_iff]
  rintro ⟨e, he, _⟩
  simp at he
theorem loopS_skip {g : Gr} {B : Pairs} {head k : Nat} (hk : k < B.length) (h : (B.getD k (0, 0)).2 ≠ head) : loopS g (B.take (k + 1)) head = loopS g (B.take k) head := by
  funext j
  rw [Bool.eq_iff_iff, loopS_iff, loopS_iff, take_snocP hk]
  constructor
  · rintro ⟨e, he, h1, h2⟩
    rcases List.mem_append.1 he with c | c
    · exact ⟨e, c, h1, h2⟩
    · have : e = B.getD k (0, 0) := by simpa using c
      subst this; exact absurd h1 h
  · rintro ⟨e, he, h1, h2⟩
    exact ⟨e, List.mem_append_left _ he, h1, h2⟩
theorem loopS_next {g : Gr} {B : Pairs} {head k : Nat} (ok : OkG g) (hk : k < B.length) (h : (B.getD k (0, 0)).2 = head) :
    inn (mark (loopS g (B.take k) head) head) (condL g head (B.getD k (0, 0)).1) g.length = loopS g (B.take (k + 1)) head := by
  funext j
  rw [Bool.eq_iff_iff, loopS_iff, take_snocP hk]
  unfold inn
  rw [Bool.or_eq_true, Bool.and_eq_true, decide_eq_true_iff]
  unfold condL
  rw [Bool.and_eq_true, Bool.and_eq_true, decide_eq_true_iff, rs_iff (but := ((head : Nat) : Int))]
  constructor
  · rintro (c | ⟨_, ⟨h1, h2⟩, h3⟩)
    · rcases mark_cases c with c | c
      · obtain ⟨e, he, h1, h2⟩ := loopS_iff.1 c
        exact ⟨e, List.mem_append_left _ he, h1, h2⟩
      · exact ⟨_, List.mem_append_right _ (List.mem_singleton.2 rfl), h, .inl c⟩
    · exact ⟨_, List.mem_append_right _ (List.mem_singleton.2 rfl), h, .inr ⟨h1, h2, h3⟩⟩
  · rintro ⟨e, he, h1, h2⟩
    rcases List.mem_append.1 he with c | c
    · exact .inl (mark_of (loopS_iff.2 ⟨e, c, h1, h2⟩))
    · have : e = B.getD k (0, 0) := by simpa using c
      subst this
      rcases h2 with rfl | ⟨h2, h3, h4⟩
      · exact .inl (mark_self _ _)
      · exact .inr ⟨(rs_iff.1 h3).lt ok.fits ok.pos, ⟨h2, h3⟩, h4⟩

set_option maxRecDepth 100000 in
set_option maxHeartbeats 4000000 in
theorem rLoop_any (a : Option Addr) (cap : Nat) (g : Gr) (head : Nat) (w : World) (hg : GraphIn w a g) (ok : OkG g) (hh : head < g.length) :
    Calls Try.prog 70 #[.slice a g.length cap, .int .i64 head] w fun e w' => ∃ v, e = .returned v ∧ BoolSl w' v g.length (loopS g (backsL g) head) ∧ Below w.heap.size w w' := by
  have h10 := ok.ten
  have hF : ∀ e ∈ backsL g, e.1 < g.length := fun e he => by
    obtain ⟨x, y⟩ := e
    exact (rs_iff.1 ((mem_edgesL ok).1 he).1).lt ok.fits ok.pos
  have hFl : (backsL g).length ≤ 1000 := edgesL_len ok
  have HReach : Hid (∀ w', Below w.heap.size w w' → Calls Try.prog 48 #[.slice a g.length cap, .int .i64 0, .int .i64 (-1)] w' fun e w'' => ∃ q cap', e = .returned (.slice (some ⟨q, 0, none⟩) g.length cap') ∧ w'.heap.size ≤ q ∧ BRow w'' q g.length (rs g (-1) 0) ∧ Below w'.heap.size w' w'') := Lib.hid fun w' hb => rReach_row a cap g 0 (-1) w' (hg.below hb) ok ok.pos
  have HReach2 : Hid (∀ v w', v < g.length → Below w.heap.size w w' → Calls Try.prog 48 #[.slice a g.length cap, .int .i64 v, .int .i64 head] w' fun e w'' => ∃ q cap', e = .returned (.slice (some ⟨q, 0, none⟩) g.length cap') ∧ w'.heap.size ≤ q ∧ BRow w'' q g.length (rs g (head : Nat) v) ∧ Below w'.heap.size w' w'') := Lib.hid fun v w' hv hb => rReach_row a cap g v head w' (hg.below hb) ok hv
  have HBacks : Hid (∀ w', Below w.heap.size w w' → Calls Try.prog 68 #[.slice a g.length cap] w' (PairPost (backsL g) w')) := Lib.hid fun w' hb => rBacks_any a cap g w' (hg.below hb) ok
  have HFm := Lib.hid hF
  have HOk := Lib.hid ok
  have hmk := run_make_row' (P := Try.prog) 59 4 (.bool false) 1 Try.underlying59 Try.infoBool rfl .i64 .i64 g.length (by omega) (by omega)
  have hrow0 : BRow (w.alloc (.cells (madeCells #[.bool false] g.length) 4)) w.heap.size g.length (fun _ => false) := by
    rw [boolArr_made]; exact heap_at _ _ _ rfl
  have hbl0 : Below w.heap.size w (w.alloc (.cells (madeCells #[.bool false] g.length) 4)) := (Below.refl _ _).alloc (Nat.le_refl _) _
  have HR0 := Lib.hid hrow0; have HB0 := Lib.hid hbl0
  clear hF hg hrow0 hbl0
  go_enter Try.func70, Try.ntmps70
  go_wp2_with fail
  refine (HReach.out _ HB0.out).mono ?_; rintro e w1 ⟨qr, rcap, rfl, hqr, hs1, hb1⟩
  simp only [World.size_alloc] at hqr
  have HB1 := Lib.hid (HB0.out.trans (hb1.mono HB0.out.size)); have HR1 := Lib.hid (HR0.out.below hb1 HR0.out.lt); have HS1 := Lib.hid hs1
  clear hb1 hs1
  go_wp2_with fail
  refine (HBacks.out _ HB1.out).mono ?_; rintro e w2 ⟨v2, rfl, hp2, hb2⟩
  obtain ⟨fa, fcap, rfl, hF⟩ := pairsIn_of hp2
  have hrr := HS1.out.below hb2 HS1.out.lt
  have HRr := Lib.hid hrr
  have HB2 := Lib.hid (HB1.out.trans (hb2.mono HB1.out.size)); have hrow2 := HR1.out.below hb2 HR1.out.lt; have HF := Lib.hid hF
  have HNe := Lib.hid (pairs_neB hF hrow2)
  have HR2 := Lib.hid hrow2
  have hqr2 := hrr.lt
  clear hb2 hF hp2 hrow2 hrr HS1 HR1 HR0
  generalize hBB : backsL g = B at *
  have HBB := Lib.hid hBB; clear hBB
  have HL0 := Lib.hid (loopS_zero g B head)
  have HFull : Hid (B.take B.length = B) := Lib.hid (List.take_length)
  have HSkip : Hid (∀ k, k < B.length → (B.getD k (0, 0)).2 ≠ head → loopS g (B.take (k + 1)) head = loopS g (B.take k) head) := Lib.hid fun k hk h => loopS_skip hk h
  have HNext : Hid (∀ k, k < B.length → (B.getD k (0, 0)).2 = head → inn (mark (loopS g (B.take k) head) head) (condL g head (B.getD k (0, 0)).1) g.length = loopS g (B.take (k + 1)) head) := Lib.hid fun k hk h => loopS_next HOk.out hk h
  generalize hq : w.heap.size = q at *
  have HQ := Lib.hid hq; clear hq
  have hqw2 : q < w2.heap.size := HR2.out.lt
  go_wp2_with fail
  go_loopw [8] (fun i wr => ∃ k : Nat, k ≤ B.length ∧ i = .int .i64 k ∧ BRow wr q g.length (loopS g (B.take k) head) ∧ Save q w2 wr) (fun i _ => B.length - (intOf i).toNat)
  case atStart => exact ⟨0, Nat.zero_le _, rfl, by rw [HL0.out]; exact HR2.out, Save.refl _ _⟩
  case round =>
    obtain ⟨k, hk, rfl, hrow, hsv⟩ := hrel
    by_cases hlt : k < B.length
    · obtain ⟨b, off, rfl, hc1, hc2⟩ := hsv.pairs HF.out HNe.out k hlt
      have hx10 := HFm.out _ (getD_mem_any (0, 0) hlt)
      have HSk := Lib.hid (HSkip.out k hlt); have HNx := Lib.hid (HNext.out k hlt)
      have HRow := Lib.hid hrow; have HSv := Lib.hid hsv
      have hne : b ≠ q := HNe.out k hlt b off rfl
      clear hrow hsv
      generalize B.getD k (0, 0) = e at *
      obtain ⟨x, y⟩ := e
      have hc1 : wr.cell? ⟨b, off + k * 2, none⟩ = some (.int .i64 (x : Nat)) := hc1
      have hc2 : wr.cell? ⟨b, off + k * 2 + 1, none⟩ = some (.int .i64 (y : Nat)) := hc2
      have hx10 : x < g.length := hx10
      generalize B.take k = Bk at *
      by_cases hy : y = head
      · subst hy
        have hyb : ((y : Int) != (y : Int)) = false := by simp
        have HNx1 : Hid (inn (mark (loopS g Bk y) y) (condL g y x) g.length = loopS g (B.take (k + 1)) y) := Lib.hid (HNx.out rfl)
        clear HNx HSk
        have f1 := HRow.out.free y
        have d1 := HRow.out.cell hh
        have HRow1 := Lib.hid (HRow.out.mark y)
        generalize mark (loopS g Bk y) y = S1 at *
        have HI0 := Lib.hid (inn_zero S1 (condL g y x))
        have HSv1 := Lib.hid (HSv.out.trans (Save.set q y wr (.bool true)))
        have hyl : (y : Int) < (g.length : Int) := by omega
        clear HRow
        go_wp2_with fail
        go_loopw [9] (fun i wr => ∃ v : Nat, v ≤ g.length ∧ i = .int .i64 v ∧ BRow wr q g.length (inn S1 (condL g y x) v) ∧ Save q w2 wr ∧ wr.cell? ⟨b, off + k * 2, none⟩ = some (.int .i64 (x : Nat))) (fun i _ => g.length - (intOf i).toNat)
        case atStart => exact ⟨0, Nat.zero_le _, rfl, by rw [HI0.out]; exact HRow1.out, HSv1.out, (Save.set q y _ (.bool true)).cell hne hc1⟩
        case round =>
          obtain ⟨v, hv, rfl, hrow, hsv, hcx⟩ := hrel
          by_cases hvl : v < g.length
          · have hcr : wr.cell? ⟨qr, v, none⟩ = some (.bool (rs g (-1) 0 v)) := hsv.cell (by omega) (HRr.out.cell hvl)
            have hvi : (v : Int) < (g.length : Int) := by omega
            have hxi : (x : Int) < (g.length : Int) := by omega
            have hki : (k : Int) < (B.length : Int) := by omega
            have f1 := hrow.free v
            have d1 := hrow.cell hvl
            have HY := Lib.hid (fun h => inn_yes (S := S1) (c := condL g y x) (v := v) h); have HN := Lib.hid (fun h => inn_no (S := S1) (c := condL g y x) (v := v) h)
            have hcond : condL g y x v = (decide (v ≠ y) && rs g (-1) 0 v && rs g (y : Nat) v x) := rfl
            have hbw : Below q w wr := HB2.out.trans (hsv.below (Nat.le_refl _) (by omega))
            have HRch := Lib.hid (fun w' (h : Below q w w') => HReach2.out v w' hvl h)
            have HBw := Lib.hid hbw; have HRow := Lib.hid hrow; have HSv2 := Lib.hid hsv
            clear hrow hsv hbw
            generalize condL g y x = C at *
            by_cases hvy : v = y
            · have hvb : ((v : Int) != (y : Int)) = false := by simp; omega
              have HN1 := Lib.hid (HN.out (by rw [hcond]; simp [hvy]))
              clear hcond hvy
              go_wp2_with fail
              go_quiet (fail)
              go_wp2_with fail
              go_roundw
              case rel => exact ⟨v + 1, by omega, by go_num, by rw [HN1.out]; exact HRow.out, HSv2.out.trans (Save.of_below (below_drewN (Below.refl _ _) _)), hcx⟩
              case measure => simp [intOf]; omega
            · have hvb : ((v : Int) != (y : Int)) = true := by simp; omega
              cases hrv : rs g (-1) 0 v
              · rw [hrv] at hcr
                have HN1 := Lib.hid (HN.out (by rw [hcond, hrv]; simp))
                clear hcond hvy hrv
                go_wp2_with fail
                go_quiet (fail)
                go_wp2_with fail
                go_roundw
                case rel => exact ⟨v + 1, by omega, by go_num, by rw [HN1.out]; exact HRow.out, HSv2.out.trans (Save.of_below (below_drewN (Below.refl _ _) _)), hcx⟩
                case measure => simp [intOf]; omega
              · rw [hrv] at hcr
                rw [hrv] at hcond
                have hvd : decide (v ≠ y) = true := by simpa using hvy
                rw [hvd, Bool.true_and, Bool.true_and] at hcond
                generalize rs g (y : Nat) v = Rv at *
                cases hrx : Rv x
                · rw [hrx] at hcond
                  have HN1 := Lib.hid (HN.out hcond)
                  have HX := Lib.hid hrx
                  clear hcond hvy hrv hvd hrx
                  go_wp2_with fail
                  refine wp_region_held_drew (S := fun w' => w'.cell? ⟨b, off + k * 2, none⟩ = some (.int .i64 (x : Nat)) ∧ w'.cell? ⟨qr, v, none⟩ = some (.bool true)) (by kernel_rfl) ⟨hcx, hcr⟩ (fun hHeld => ?_)
                  refine wpAnyH_take (i := 0) (v := ?v0a) (by simp only [List.getElem?_toArray, List.getElem?_cons_zero]; rfl) (by kernel_rfl) (by kernel_rfl) (by kernel_rfl) (by exact fun _ _ _ h => h) (Or.inl ⟨by rfl, ?hy0a⟩) (by assumption) ?_
                  case hy0a => intro w hSw; (try dsimp only at hSw); go_simp; try with_reducible rfl
                  try simp only [Act.put, List.setIfInBounds_toArray, List.set_cons_zero, List.set_cons_succ]
                  refine wpAnyH_take (i := 1) (v := ?v1a) (by simp only [List.getElem?_toArray, List.getElem?_cons_zero, List.getElem?_cons_succ]; rfl) (by kernel_rfl) (by kernel_rfl) (by kernel_rfl) (by exact fun _ _ _ h => h) (Or.inl ⟨by rfl, ?hy1a⟩) (by assumption) ?_
                  case hy1a => intro w hSw; (try dsimp only at hSw); go_simp; try with_reducible rfl
                  try simp only [Act.put, List.setIfInBounds_toArray, List.set_cons_zero, List.set_cons_succ]
                  refine wpAnyH_take (i := 2) (v := ?v2a) (by simp only [List.getElem?_toArray, List.getElem?_cons_zero, List.getElem?_cons_succ]; rfl) (by kernel_rfl) (by kernel_rfl) (by kernel_rfl) (by exact fun _ _ _ h => h) (Or.inl ⟨by rfl, ?hy2a⟩) (by assumption) ?_
                  case hy2a => intro w hSw; (try dsimp only at hSw); go_simp; try with_reducible rfl
                  try simp only [Act.put, List.setIfInBounds_toArray, List.set_cons_zero, List.set_cons_succ]
                  refine wpAnyH_take (i := 3) (v := ?v3a) (by simp only [List.getElem?_toArray, List.getElem?_cons_zero, List.getElem?_cons_succ]; rfl) (by kernel_rfl) (by kernel_rfl) (by kernel_rfl) (by exact fun _ _ _ h => h) (Or.inl ⟨by rfl, ?hy3a⟩) (by assumption) ?_
                  case hy3a => intro w hSw; (try dsimp only at hSw); go_simp; try with_reducible rfl
                  try simp only [Act.put, List.setIfInBounds_toArray, List.set_cons_zero, List.set_cons_succ]
                  refine wpAnyH_take (i := 4) (v := ?v4a) (by simp only [List.getElem?_toArray, List.getElem?_cons_zero, List.getElem?_cons_succ]; rfl) (by kernel_rfl) (by kernel_rfl) (by kernel_rfl) (by exact fun _ _ _ h => h) (Or.inl ⟨by rfl, ?hy4a⟩) (by assumption) ?_
                  case hy4a => intro w hSw; (try dsimp only at hSw); go_simp; try with_reducible rfl
                  try simp only [Act.put, List.setIfInBounds_toArray, List.set_cons_zero, List.set_cons_succ]
                  refine wpAnyH_take (i := 5) (v := ?v5a) (by simp only [List.getElem?_toArray, List.getElem?_cons_zero, List.getElem?_cons_succ]; rfl) (by kernel_rfl) (by kernel_rfl) (by kernel_rfl) (by exact fun _ _ _ h => h) (Or.inl ⟨by rfl, ?hy5a⟩) (by assumption) ?_
                  case hy5a => intro w hSw; (try dsimp only at hSw); go_simp; try with_reducible rfl
                  try simp only [Act.put, List.setIfInBounds_toArray, List.set_cons_zero, List.set_cons_succ]
                  refine wpAnyH_take (i := 6) (v := ?v6a) (by simp only [List.getElem?_toArray, List.getElem?_cons_zero, List.getElem?_cons_succ]; rfl) (by kernel_rfl) (by kernel_rfl) (by kernel_rfl) (by exact fun _ _ _ h => h) (Or.inl ⟨by rfl, ?hy6a⟩) (by assumption) ?_
                  case hy6a => intro w hSw; (try dsimp only at hSw); go_simp; try with_reducible rfl
                  try simp only [Act.put, List.setIfInBounds_toArray, List.set_cons_zero, List.set_cons_succ]
                  refine wpAnyH_take (i := 7) (v := ?v7a) (by simp only [List.getElem?_toArray, List.getElem?_cons_zero, List.getElem?_cons_succ]; rfl) (by kernel_rfl) (by kernel_rfl) (by kernel_rfl) (by exact fun _ _ _ h => h) (Or.inl ⟨by rfl, ?hy7a⟩) (by assumption) ?_
                  case hy7a => intro w hSw; (try dsimp only at hSw); go_simp; try with_reducible rfl
                  try simp only [Act.put, List.setIfInBounds_toArray, List.set_cons_zero, List.set_cons_succ]
                  refine wpAnyH_take (i := 8) (v := ?v8a) (by simp only [List.getElem?_toArray, List.getElem?_cons_zero, List.getElem?_cons_succ]; rfl) (by kernel_rfl) (by kernel_rfl) (by kernel_rfl) (by exact fun _ _ _ h => h) (Or.inl ⟨by rfl, ?hy8a⟩) (by assumption) ?_
                  case hy8a => intro w hSw; (try dsimp only at hSw); go_simp; try with_reducible rfl
                  try simp only [Act.put, List.setIfInBounds_toArray, List.set_cons_zero, List.set_cons_succ]
                  refine wpAnyH_take (i := 9) (v := ?v9a) (by simp only [List.getElem?_toArray, List.getElem?_cons_zero, List.getElem?_cons_succ]; rfl) (by kernel_rfl) (by kernel_rfl) (by kernel_rfl) (by exact fun _ _ _ h => h) (Or.inl ⟨by rfl, ?hy9a⟩) (by assumption) ?_
                  case hy9a => intro w hSw; (try dsimp only at hSw); go_simp; try with_reducible rfl
                  try simp only [Act.put, List.setIfInBounds_toArray, List.set_cons_zero, List.set_cons_succ]
                  refine wpAnyH_take (i := 10) (v := ?v10a) (by simp only [List.getElem?_toArray, List.getElem?_cons_zero, List.getElem?_cons_succ]; rfl) (by kernel_rfl) (by kernel_rfl) (by kernel_rfl) (by exact fun _ _ _ h => h) (Or.inl ⟨by rfl, ?hy10a⟩) (by assumption) ?_
                  case hy10a => intro w hSw; (try dsimp only at hSw); go_simp; try with_reducible rfl
                  try simp only [Act.put, List.setIfInBounds_toArray, List.set_cons_zero, List.set_cons_succ]
                  refine wpAnyH_take (i := 11) (v := ?v11a) (by simp only [List.getElem?_toArray, List.getElem?_cons_zero, List.getElem?_cons_succ]; rfl) (by kernel_rfl) (by kernel_rfl) (by kernel_rfl) (by exact fun _ _ _ h => h) (Or.inl ⟨by rfl, ?hy11a⟩) (by assumption) ?_
                  case hy11a => intro w hSw; (try dsimp only at hSw); go_simp; try with_reducible rfl
                  try simp only [Act.put, List.setIfInBounds_toArray, List.set_cons_zero, List.set_cons_succ]
                  refine wpAnyH_take (i := 12) (v := ?v12a) (by simp only [List.getElem?_toArray, List.getElem?_cons_zero, List.getElem?_cons_succ]; rfl) (by kernel_rfl) (by kernel_rfl) (by kernel_rfl) (by exact fun _ _ _ h => h) (Or.inl ⟨by rfl, ?hy12a⟩) (by assumption) ?_
                  case hy12a => intro w hSw; (try dsimp only at hSw); go_simp; try with_reducible rfl
                  try simp only [Act.put, List.setIfInBounds_toArray, List.set_cons_zero, List.set_cons_succ]
                  refine wpAnyH_take (i := 14) (v := ?v14a) (by simp only [List.getElem?_toArray, List.getElem?_cons_zero, List.getElem?_cons_succ]; rfl) (by kernel_rfl) (by kernel_rfl) (by kernel_rfl) (by exact fun _ _ _ h => h) (Or.inl ⟨by rfl, ?hy14a⟩) (by assumption) ?_
                  case hy14a => intro w hSw; (try dsimp only at hSw); go_simp; try with_reducible rfl
                  try simp only [Act.put, List.setIfInBounds_toArray, List.set_cons_zero, List.set_cons_succ]
                  refine wpAnyH_take (i := 15) (v := ?v15a) (by simp only [List.getElem?_toArray, List.getElem?_cons_zero, List.getElem?_cons_succ]; rfl) (by kernel_rfl) (by kernel_rfl) (by kernel_rfl) (by exact fun _ _ _ h => h) (Or.inl ⟨by rfl, ?hy15a⟩) (by assumption) ?_
                  case hy15a => intro w hSw; (try dsimp only at hSw); go_simp; try with_reducible rfl
                  try simp only [Act.put, List.setIfInBounds_toArray, List.set_cons_zero, List.set_cons_succ]
                  refine wpAnyH_take (i := 16) (v := ?v16a) (by simp only [List.getElem?_toArray, List.getElem?_cons_zero, List.getElem?_cons_succ]; rfl) (by kernel_rfl) (by kernel_rfl) (by kernel_rfl) (by exact fun _ _ _ h => h) (Or.inl ⟨by rfl, ?hy16a⟩) (by assumption) ?_
                  case hy16a => intro w hSw; (try dsimp only at hSw); go_simp; try with_reducible rfl
                  try simp only [Act.put, List.setIfInBounds_toArray, List.set_cons_zero, List.set_cons_succ]
                  refine wpAnyH_take (i := 17) (v := ?v17a) (by simp only [List.getElem?_toArray, List.getElem?_cons_zero, List.getElem?_cons_succ]; rfl) (by kernel_rfl) (by kernel_rfl) (by kernel_rfl) (by exact fun _ _ _ h => h) (Or.inl ⟨by rfl, ?hy17a⟩) (by assumption) ?_
                  case hy17a => intro w hSw; (try dsimp only at hSw); go_simp; try with_reducible rfl
                  try simp only [Act.put, List.setIfInBounds_toArray, List.set_cons_zero, List.set_cons_succ]
                  refine wpAnyH_take (i := 18) (v := ?v18a) (by simp only [List.getElem?_toArray, List.getElem?_cons_zero, List.getElem?_cons_succ]; rfl) (by kernel_rfl) (by kernel_rfl) (by kernel_rfl) (by exact fun _ _ _ h => h) (Or.inl ⟨by rfl, ?hy18a⟩) (by assumption) ?_
                  case hy18a => intro w hSw; (try dsimp only at hSw); go_simp; try with_reducible rfl
                  try simp only [Act.put, List.setIfInBounds_toArray, List.set_cons_zero, List.set_cons_succ]
                  refine wpAnyH_ready (rs := [13]) (by kernel_rfl) (by simp) ?_
                  refine AllReadyH.cons (by simp only [List.getElem?_toArray, List.getElem?_cons_zero, List.getElem?_cons_succ]; rfl) (fun K hK => ?_) AllReadyH.nil
                  go_simp
                  refine (HRch.out _ HBw.out.drew).mono ?_; rintro e w4 ⟨q4, c4, rfl, _, hr4, hb4⟩
                  have hx4 := hr4.cell hx10; rw [HX.out] at hx4
                  have hc4 : w4.cell? ⟨b, off + k * 2, none⟩ = some (.int .i64 (x : Nat)) := keep (w := wr.drew) hcx hb4
                  have hcr4 : w4.cell? ⟨qr, v, none⟩ = some (.bool true) := keep (w := wr.drew) hcr hb4
                  go_simp
                  refine hK.out _ _ ⟨hc4, hcr4⟩ (fun hHeld2 => ?_)
                  clear hK K hHeld
                  try simp only [Act.put, List.setIfInBounds_toArray, List.set_cons_zero, List.set_cons_succ]
                  refine wpAnyH_take (i := 19) (v := ?v19a) (by simp only [List.getElem?_toArray, List.getElem?_cons_zero, List.getElem?_cons_succ]; rfl) (by kernel_rfl) (by kernel_rfl) (by kernel_rfl) (by exact fun _ _ _ h => h) (Or.inl ⟨by rfl, ?hy19a⟩) (by assumption) ?_
                  case hy19a => intro w hSw; (try dsimp only at hSw); go_simp; try with_reducible rfl
                  try simp only [Act.put, List.setIfInBounds_toArray, List.set_cons_zero, List.set_cons_succ]
                  refine wpAnyH_ready (rs := [20]) (by kernel_rfl) (by simp) ?_
                  refine AllReadyH.cons (by simp only [List.getElem?_toArray, List.getElem?_cons_zero, List.getElem?_cons_succ]; rfl) (fun K hK => ?_) AllReadyH.nil
                  go_simp
                  refine hK.out _ _ ⟨hc4, hcr4⟩ (fun hHeld3 => ?_)
                  clear hK K hHeld2
                  try simp only [Act.put, List.setIfInBounds_toArray, List.set_cons_zero, List.set_cons_succ]
                  refine wpAnyH_take (i := 21) (v := ?v21a) (by simp only [List.getElem?_toArray, List.getElem?_cons_zero, List.getElem?_cons_succ]; rfl) (by kernel_rfl) (by kernel_rfl) (by kernel_rfl) (by exact fun _ _ _ h => h) (Or.inl ⟨by rfl, ?hy21a⟩) (by assumption) ?_
                  case hy21a => intro w hSw; (try dsimp only at hSw); go_simp; try with_reducible rfl
                  try simp only [Act.put, List.setIfInBounds_toArray, List.set_cons_zero, List.set_cons_succ]
                  refine wpAnyH_done (by kernel_rfl) ?_ _
                  have HSv4 : Hid (Save q w2 w4) := Lib.hid (HSv2.out.trans (Save.of_below (below_drewN (Below.refl _ _) 1) |>.trans (Save.of_below hb4)))
                  have HRow4 := Lib.hid ((show BRow wr.drew q g.length (inn S1 C v) from HRow.out).below hb4 HRow.out.lt)
                  go_wp2_with fail
                  go_roundw
                  case rel => exact ⟨v + 1, by omega, by go_num, by rw [HN1.out]; exact HRow4.out, HSv4.out, hc4⟩
                  case measure => simp [intOf]; omega
                · rw [hrx] at hcond
                  have HY1 := Lib.hid (HY.out hcond)
                  have HX := Lib.hid hrx
                  clear hcond hvy hrv hvd hrx
                  go_wp2_with fail
                  refine wp_region_held_drew (S := fun w' => w'.cell? ⟨b, off + k * 2, none⟩ = some (.int .i64 (x : Nat)) ∧ w'.cell? ⟨qr, v, none⟩ = some (.bool true)) (by kernel_rfl) ⟨hcx, hcr⟩ (fun hHeld => ?_)
                  refine wpAnyH_take (i := 0) (v := ?v0b) (by simp only [List.getElem?_toArray, List.getElem?_cons_zero]; rfl) (by kernel_rfl) (by kernel_rfl) (by kernel_rfl) (by exact fun _ _ _ h => h) (Or.inl ⟨by rfl, ?hy0b⟩) (by assumption) ?_
                  case hy0b => intro w hSw; (try dsimp only at hSw); go_simp; try with_reducible rfl
                  try simp only [Act.put, List.setIfInBounds_toArray, List.set_cons_zero, List.set_cons_succ]
                  refine wpAnyH_take (i := 1) (v := ?v1b) (by simp only [List.getElem?_toArray, List.getElem?_cons_zero, List.getElem?_cons_succ]; rfl) (by kernel_rfl) (by kernel_rfl) (by kernel_rfl) (by exact fun _ _ _ h => h) (Or.inl ⟨by rfl, ?hy1b⟩) (by assumption) ?_
                  case hy1b => intro w hSw; (try dsimp only at hSw); go_simp; try with_reducible rfl
                  try simp only [Act.put, List.setIfInBounds_toArray, List.set_cons_zero, List.set_cons_succ]
                  refine wpAnyH_take (i := 2) (v := ?v2b) (by simp only [List.getElem?_toArray, List.getElem?_cons_zero, List.getElem?_cons_succ]; rfl) (by kernel_rfl) (by kernel_rfl) (by kernel_rfl) (by exact fun _ _ _ h => h) (Or.inl ⟨by rfl, ?hy2b⟩) (by assumption) ?_
                  case hy2b => intro w hSw; (try dsimp only at hSw); go_simp; try with_reducible rfl
                  try simp only [Act.put, List.setIfInBounds_toArray, List.set_cons_zero, List.set_cons_succ]
                  refine wpAnyH_take (i := 3) (v := ?v3b) (by simp only [List.getElem?_toArray, List.getElem?_cons_zero, List.getElem?_cons_succ]; rfl) (by kernel_rfl) (by kernel_rfl) (by kernel_rfl) (by exact fun _ _ _ h => h) (Or.inl ⟨by rfl, ?hy3b⟩) (by assumption) ?_
                  case hy3b => intro w hSw; (try dsimp only at hSw); go_simp; try with_reducible rfl
                  try simp only [Act.put, List.setIfInBounds_toArray, List.set_cons_zero, List.set_cons_succ]
                  refine wpAnyH_take (i := 4) (v := ?v4b) (by simp only [List.getElem?_toArray, List.getElem?_cons_zero, List.getElem?_cons_succ]; rfl) (by kernel_rfl) (by kernel_rfl) (by kernel_rfl) (by exact fun _ _ _ h => h) (Or.inl ⟨by rfl, ?hy4b⟩) (by assumption) ?_
                  case hy4b => intro w hSw; (try dsimp only at hSw); go_simp; try with_reducible rfl
                  try simp only [Act.put, List.setIfInBounds_toArray, List.set_cons_zero, List.set_cons_succ]
                  refine wpAnyH_take (i := 5) (v := ?v5b) (by simp only [List.getElem?_toArray, List.getElem?_cons_zero, List.getElem?_cons_succ]; rfl) (by kernel_rfl) (by kernel_rfl) (by kernel_rfl) (by exact fun _ _ _ h => h) (Or.inl ⟨by rfl, ?hy5b⟩) (by assumption) ?_
                  case hy5b => intro w hSw; (try dsimp only at hSw); go_simp; try with_reducible rfl
                  try simp only [Act.put, List.setIfInBounds_toArray, List.set_cons_zero, List.set_cons_succ]
                  refine wpAnyH_take (i := 6) (v := ?v6b) (by simp only [List.getElem?_toArray, List.getElem?_cons_zero, List.getElem?_cons_succ]; rfl) (by kernel_rfl) (by kernel_rfl) (by kernel_rfl) (by exact fun _ _ _ h => h) (Or.inl ⟨by rfl, ?hy6b⟩) (by assumption) ?_
                  case hy6b => intro w hSw; (try dsimp only at hSw); go_simp; try with_reducible rfl
                  try simp only [Act.put, List.setIfInBounds_toArray, List.set_cons_zero, List.set_cons_succ]
                  refine wpAnyH_take (i := 7) (v := ?v7b) (by simp only [List.getElem?_toArray, List.getElem?_cons_zero, List.getElem?_cons_succ]; rfl) (by kernel_rfl) (by kernel_rfl) (by kernel_rfl) (by exact fun _ _ _ h => h) (Or.inl ⟨by rfl, ?hy7b⟩) (by assumption) ?_
                  case hy7b => intro w hSw; (try dsimp only at hSw); go_simp; try with_reducible rfl
                  try simp only [Act.put, List.setIfInBounds_toArray, List.set_cons_zero, List.set_cons_succ]
                  refine wpAnyH_take (i := 8) (v := ?v8b) (by simp only [List.getElem?_toArray, List.getElem?_cons_zero, List.getElem?_cons_succ]; rfl) (by kernel_rfl) (by kernel_rfl) (by kernel_rfl) (by exact fun _ _ _ h => h) (Or.inl ⟨by rfl, ?hy8b⟩) (by assumption) ?_
                  case hy8b => intro w hSw; (try dsimp only at hSw); go_simp; try with_reducible rfl
                  try simp only [Act.put, List.setIfInBounds_toArray, List.set_cons_zero, List.set_cons_succ]
                  refine wpAnyH_take (i := 9) (v := ?v9b) (by simp only [List.getElem?_toArray, List.getElem?_cons_zero, List.getElem?_cons_succ]; rfl) (by kernel_rfl) (by kernel_rfl) (by kernel_rfl) (by exact fun _ _ _ h => h) (Or.inl ⟨by rfl, ?hy9b⟩) (by assumption) ?_
                  case hy9b => intro w hSw; (try dsimp only at hSw); go_simp; try with_reducible rfl
                  try simp only [Act.put, List.setIfInBounds_toArray, List.set_cons_zero, List.set_cons_succ]
                  refine wpAnyH_take (i := 10) (v := ?v10b) (by simp only [List.getElem?_toArray, List.getElem?_cons_zero, List.getElem?_cons_succ]; rfl) (by kernel_rfl) (by kernel_rfl) (by kernel_rfl) (by exact fun _ _ _ h => h) (Or.inl ⟨by rfl, ?hy10b⟩) (by assumption) ?_
                  case hy10b => intro w hSw; (try dsimp only at hSw); go_simp; try with_reducible rfl
                  try simp only [Act.put, List.setIfInBounds_toArray, List.set_cons_zero, List.set_cons_succ]
                  refine wpAnyH_take (i := 11) (v := ?v11b) (by simp only [List.getElem?_toArray, List.getElem?_cons_zero, List.getElem?_cons_succ]; rfl) (by kernel_rfl) (by kernel_rfl) (by kernel_rfl) (by exact fun _ _ _ h => h) (Or.inl ⟨by rfl, ?hy11b⟩) (by assumption) ?_
                  case hy11b => intro w hSw; (try dsimp only at hSw); go_simp; try with_reducible rfl
                  try simp only [Act.put, List.setIfInBounds_toArray, List.set_cons_zero, List.set_cons_succ]
                  refine wpAnyH_take (i := 12) (v := ?v12b) (by simp only [List.getElem?_toArray, List.getElem?_cons_zero, List.getElem?_cons_succ]; rfl) (by kernel_rfl) (by kernel_rfl) (by kernel_rfl) (by exact fun _ _ _ h => h) (Or.inl ⟨by rfl, ?hy12b⟩) (by assumption) ?_
                  case hy12b => intro w hSw; (try dsimp only at hSw); go_simp; try with_reducible rfl
                  try simp only [Act.put, List.setIfInBounds_toArray, List.set_cons_zero, List.set_cons_succ]
                  refine wpAnyH_take (i := 14) (v := ?v14b) (by simp only [List.getElem?_toArray, List.getElem?_cons_zero, List.getElem?_cons_succ]; rfl) (by kernel_rfl) (by kernel_rfl) (by kernel_rfl) (by exact fun _ _ _ h => h) (Or.inl ⟨by rfl, ?hy14b⟩) (by assumption) ?_
                  case hy14b => intro w hSw; (try dsimp only at hSw); go_simp; try with_reducible rfl
                  try simp only [Act.put, List.setIfInBounds_toArray, List.set_cons_zero, List.set_cons_succ]
                  refine wpAnyH_take (i := 15) (v := ?v15b) (by simp only [List.getElem?_toArray, List.getElem?_cons_zero, List.getElem?_cons_succ]; rfl) (by kernel_rfl) (by kernel_rfl) (by kernel_rfl) (by exact fun _ _ _ h => h) (Or.inl ⟨by rfl, ?hy15b⟩) (by assumption) ?_
                  case hy15b => intro w hSw; (try dsimp only at hSw); go_simp; try with_reducible rfl
                  try simp only [Act.put, List.setIfInBounds_toArray, List.set_cons_zero, List.set_cons_succ]
                  refine wpAnyH_take (i := 16) (v := ?v16b) (by simp only [List.getElem?_toArray, List.getElem?_cons_zero, List.getElem?_cons_succ]; rfl) (by kernel_rfl) (by kernel_rfl) (by kernel_rfl) (by exact fun _ _ _ h => h) (Or.inl ⟨by rfl, ?hy16b⟩) (by assumption) ?_
                  case hy16b => intro w hSw; (try dsimp only at hSw); go_simp; try with_reducible rfl
                  try simp only [Act.put, List.setIfInBounds_toArray, List.set_cons_zero, List.set_cons_succ]
                  refine wpAnyH_take (i := 17) (v := ?v17b) (by simp only [List.getElem?_toArray, List.getElem?_cons_zero, List.getElem?_cons_succ]; rfl) (by kernel_rfl) (by kernel_rfl) (by kernel_rfl) (by exact fun _ _ _ h => h) (Or.inl ⟨by rfl, ?hy17b⟩) (by assumption) ?_
                  case hy17b => intro w hSw; (try dsimp only at hSw); go_simp; try with_reducible rfl
                  try simp only [Act.put, List.setIfInBounds_toArray, List.set_cons_zero, List.set_cons_succ]
                  refine wpAnyH_take (i := 18) (v := ?v18b) (by simp only [List.getElem?_toArray, List.getElem?_cons_zero, List.getElem?_cons_succ]; rfl) (by kernel_rfl) (by kernel_rfl) (by kernel_rfl) (by exact fun _ _ _ h => h) (Or.inl ⟨by rfl, ?hy18b⟩) (by assumption) ?_
                  case hy18b => intro w hSw; (try dsimp only at hSw); go_simp; try with_reducible rfl
                  try simp only [Act.put, List.setIfInBounds_toArray, List.set_cons_zero, List.set_cons_succ]
                  refine wpAnyH_ready (rs := [13]) (by kernel_rfl) (by simp) ?_
                  refine AllReadyH.cons (by simp only [List.getElem?_toArray, List.getElem?_cons_zero, List.getElem?_cons_succ]; rfl) (fun K hK => ?_) AllReadyH.nil
                  go_simp
                  refine (HRch.out _ HBw.out.drew).mono ?_; rintro e w4 ⟨q4, c4, rfl, _, hr4, hb4⟩
                  have hx4 := hr4.cell hx10; rw [HX.out] at hx4
                  have hc4 : w4.cell? ⟨b, off + k * 2, none⟩ = some (.int .i64 (x : Nat)) := keep (w := wr.drew) hcx hb4
                  have hcr4 : w4.cell? ⟨qr, v, none⟩ = some (.bool true) := keep (w := wr.drew) hcr hb4
                  go_simp
                  refine hK.out _ _ ⟨hc4, hcr4⟩ (fun hHeld2 => ?_)
                  clear hK K hHeld
                  try simp only [Act.put, List.setIfInBounds_toArray, List.set_cons_zero, List.set_cons_succ]
                  refine wpAnyH_take (i := 19) (v := ?v19b) (by simp only [List.getElem?_toArray, List.getElem?_cons_zero, List.getElem?_cons_succ]; rfl) (by kernel_rfl) (by kernel_rfl) (by kernel_rfl) (by exact fun _ _ _ h => h) (Or.inl ⟨by rfl, ?hy19b⟩) (by assumption) ?_
                  case hy19b => intro w hSw; (try dsimp only at hSw); go_simp; try with_reducible rfl
                  try simp only [Act.put, List.setIfInBounds_toArray, List.set_cons_zero, List.set_cons_succ]
                  refine wpAnyH_ready (rs := [20]) (by kernel_rfl) (by simp) ?_
                  refine AllReadyH.cons (by simp only [List.getElem?_toArray, List.getElem?_cons_zero, List.getElem?_cons_succ]; rfl) (fun K hK => ?_) AllReadyH.nil
                  go_simp
                  refine hK.out _ _ ⟨hc4, hcr4⟩ (fun hHeld3 => ?_)
                  clear hK K hHeld2
                  try simp only [Act.put, List.setIfInBounds_toArray, List.set_cons_zero, List.set_cons_succ]
                  refine wpAnyH_take (i := 21) (v := ?v21b) (by simp only [List.getElem?_toArray, List.getElem?_cons_zero, List.getElem?_cons_succ]; rfl) (by kernel_rfl) (by kernel_rfl) (by kernel_rfl) (by exact fun _ _ _ h => h) (Or.inl ⟨by rfl, ?hy21b⟩) (by assumption) ?_
                  case hy21b => intro w hSw; (try dsimp only at hSw); go_simp; try with_reducible rfl
                  try simp only [Act.put, List.setIfInBounds_toArray, List.set_cons_zero, List.set_cons_succ]
                  refine wpAnyH_done (by kernel_rfl) ?_ _
                  have HSv4 : Hid (Save q w2 w4) := Lib.hid (HSv2.out.trans (Save.of_below (below_drewN (Below.refl _ _) 1) |>.trans (Save.of_below hb4)))
                  have HRow4 := Lib.hid ((show BRow wr.drew q g.length (inn S1 C v) from HRow.out).below hb4 HRow.out.lt)
                  have f4 := HRow4.out.free v
                  have d4 := HRow4.out.cell hvl
                  go_wp2_with fail
                  go_roundw
                  case rel => exact ⟨v + 1, by omega, by go_num, by rw [← HY1.out]; exact HRow4.out.mark v, HSv4.out.trans (Save.set q v w4 (.bool true)), (Save.set q v _ (.bool true)).cell hne hc4⟩
                  case measure => simp [intOf]; omega
          · obtain rfl : v = g.length := by omega
            have HRw := Lib.hid hrow; have HSv2 := Lib.hid hsv
            clear hrow hsv
            go_wp2_with fail
            go_roundw
            case rel => exact ⟨k + 1, by omega, by go_num, by rw [← HNx1.out]; exact HRw.out, HSv2.out⟩
            case measure => simp [intOf]; omega
      · have hyb : ((y : Int) != (head : Int)) = true := by simp; omega
        have HSk1 : Hid (loopS g (B.take (k + 1)) head = loopS g Bk head) := Lib.hid (HSk.out hy)
        clear HNx
        go_wp2_with fail
        go_roundw
        case rel => exact ⟨k + 1, by omega, by go_num, by rw [HSk1.out]; exact HRow.out, HSv.out⟩
        case measure => simp [intOf]; omega
    · obtain rfl : k = B.length := by omega
      rw [HFull.out] at hrow
      have HRw := Lib.hid hrow; have HB := Lib.hid (HB2.out.trans (hsv.below (B := q) (Nat.le_refl _) (by omega)))
      clear hrow hsv
      go_wp2_with fail
      go_ret
      exact ⟨_, rfl, ⟨q, g.length, rfl, fun k hk => by rw [HBB.out]; exact HRw.out.cell hk⟩, by first | exact HB.out | (rw [HQ.out]; exact HB.out)⟩
end Go.Proofs.Ytmljmmnofhhheaa
