/- The walk of IsReducible. -/
import Derived.Test.YtmljmmnofhhheaaWK
namespace Go.Proofs.Ytmljmmnofhhheaa
open Go.RowKit

/-- An edge of reached nodes that is no back edge. -/
def fwdR (g : Gr) (u v : Nat) : Prop := rs g (-1) 0 u = true ∧ goesI g u (v : Nat) = true ∧ domB g v u = false
noncomputable def redB (g : Gr) : Bool := @decide (¬ HasCore (fwdR g) (rs g (-1) 0)) (Classical.propDecidable _)
noncomputable def redR (g : List (List Int)) : Bool := if validE g = 0 then redB (gN g) else false
theorem mem_rowE {g : Gr} {good : Nat → Nat → Bool} {a n x y : Nat} : (x, y) ∈ rowE g good a n ↔ x = a ∧ y < n ∧ goesI g a (y : Nat) = true ∧ good a y = true := by
  unfold rowE setUpto
  simp only [List.mem_map, List.mem_filter, List.mem_range, Bool.and_eq_true, Prod.mk.injEq]
  constructor
  · rintro ⟨b, ⟨h1, h2, h3⟩, rfl, rfl⟩
    exact ⟨rfl, h1, h2, h3⟩
  · rintro ⟨rfl, h1, h2, h3⟩
    exact ⟨y, ⟨h1, h2, h3⟩, rfl, rfl⟩
theorem goes_lt {g : Gr} {a y : Nat} (ok : OkG g) (h : goesI g a (y : Nat) = true) : y < g.length := by
  obtain ⟨x, hx, e⟩ := goesI_iff.1 h
  have : x = y := by omega
  subst this
  exact ok.fits _ _ hx
theorem mem_edgesL {g : Gr} (ok : OkG g) {good : Nat → Nat → Bool} {x y : Nat} : (x, y) ∈ edgesL g good ↔ rs g (-1) 0 x = true ∧ goesI g x (y : Nat) = true ∧ good x y = true := by
  unfold edgesL edgesUpto
  rw [List.take_length]
  simp only [List.mem_flatMap, mem_rowE, setL_mem]
  constructor
  · rintro ⟨a, ⟨_, h1⟩, rfl, _, h2, h3⟩
    exact ⟨h1, h2, h3⟩
  · rintro ⟨h1, h2, h3⟩
    have := (rs_iff.1 h1).lt ok.fits ok.pos
    have := ok.ten
    exact ⟨x, ⟨by omega, h1⟩, rfl, goes_lt ok h2, h2, h3⟩
theorem edgesL_fst {g : Gr} (ok : OkG g) {good : Nat → Nat → Bool} : ∀ e ∈ edgesL g good, e.1 < 10 := fun e he => by
  obtain ⟨x, y⟩ := e
  have := (rs_iff.1 ((mem_edgesL ok).1 he).1).lt ok.fits ok.pos
  have := ok.ten
  show x < 10
  omega
theorem edgesL_len {g : Gr} (ok : OkG g) {good : Nat → Nat → Bool} : (edgesL g good).length ≤ 1000 := by
  unfold edgesL
  have h1 := edgesUpto_len g good (setL (rs g (-1) 0)) (setL (rs g (-1) 0)).length
  have h2 : (setL (rs g (-1) 0)).length * g.length ≤ 10 * 10 := Nat.mul_le_mul (setUpto_len _ 10) ok.ten
  omega
theorem any_hit {g : Gr} (ok : OkG g) {T : NSet} {v : Nat} : (edgesL g (goodFwd g)).any (hitB T v) = true ↔ ∃ u, T u = true ∧ fwdR g u v := by
  rw [List.any_eq_true]
  constructor
  · rintro ⟨⟨x, y⟩, he, hh⟩
    obtain ⟨h1, h2, h3⟩ := (mem_edgesL ok).1 he
    simp only [hitB, Bool.and_eq_true, decide_eq_true_eq] at hh
    obtain ⟨rfl, hT⟩ := hh
    exact ⟨x, hT, h1, h2, by simpa [goodFwd] using h3⟩
  · rintro ⟨u, hT, h1, h2, h3⟩
    exact ⟨(u, v), (mem_edgesL ok).2 ⟨h1, h2, by simp [goodFwd, h3]⟩, by simp [hitB, hT]⟩
theorem pairsIn_of {w : World} {v : Value} {ps : Pairs} (h : PairSl w v ps) : ∃ a cap, v = .slice a ps.length cap ∧ PairsIn w a ps := h
theorem nats_ne {w : World} {a : Option Addr} {xs : List Nat} {q : Nat} {T : NSet} (h : NatsIn w a xs) (hT : Ten w q T) : ∀ k, k < xs.length → ∀ b off, a = some ⟨b, off, none⟩ → b ≠ q := by
  rintro k hk b off rfl rfl
  obtain ⟨b', off', e, hc⟩ := h k hk
  simp only [Option.some.injEq, Addr.mk.injEq, and_true] at e
  obtain ⟨rfl, rfl⟩ := e
  rw [cell_of_row w b (off + k) _ _ _ hT] at hc
  by_cases c : off + k < 10
  · rw [bools_get T _ c] at hc; cases hc
  · rw [Array.getElem?_eq_none (by show 10 ≤ off + k; omega)] at hc; cases hc
theorem NatsIn.set {w : World} {a : Option Addr} {xs : List Nat} {q v : Nat} {x : Value} (h : NatsIn w a xs) (hne : ∀ k, k < xs.length → ∀ b off, a = some ⟨b, off, none⟩ → b ≠ q) : NatsIn (w.setCell ⟨q, v, none⟩ x) a xs := fun k hk => by
  obtain ⟨b, off, rfl, hc⟩ := h k hk
  exact ⟨b, off, rfl, by rw [(Touch.set w q v x).cell (hne k hk b off rfl)]; exact hc⟩

theorem ret_not {p q : Prop} {_ : Decidable p} {_ : Decidable q} {v : Value} (h : p ↔ q) : Ending.returned (.tuple #[.bool (!decide p), v]) = .returned (.tuple #[.bool (!decide q), v]) := by simp [h]

set_option maxRecDepth 100000 in
set_option maxHeartbeats 4000000 in
theorem IsReducible_any (g0 : List (List Int)) (a : Option Addr) (cap : Nat) (w : World) (hin : RowsIn w a g0) (hs : Short g0) :
    Calls Try.prog 13 #[.slice a g0.length cap] w fun e w' => e = .returned (.tuple #[.bool (redR g0), .int .i64 (validE g0)]) ∧ Below w.heap.size w w' := by
  have hbl : Below w.heap.size w (w.alloc (.cells #[.slice a g0.length cap] 22)) := (Below.refl _ _).alloc (Nat.le_refl _) _
  have hc0 : (w.alloc (.cells #[.slice a g0.length cap] 22)).cell? ⟨w.heap.size, 0, none⟩ = some (.slice a g0.length cap) := by simp [go_sem]
  have HV := Lib.hid (Validate_any g0 a cap _ (hin.below hbl) hs)
  by_cases hv : validE g0 = 0
  · have hn : redR g0 = redB (gN g0) := by unfold redR; rw [if_pos hv]
    have ok := valid_ok hv
    have HE : Hid (∀ w', Below (w.heap.size + 1) (w.alloc (.cells #[.slice a g0.length cap] 22)) w' → Calls Try.prog 41 #[.slice a g0.length cap, .func (.func 42) #[] #[.pointer (some ⟨w.heap.size, 0, none⟩)]] w' (PairPost (edgesL (gN g0) (goodFwd (gN g0))) w')) := Lib.hid fun w' hb => by
      have hgg := ((hin.graph hv).below hbl).below (hb.mono (by simp) : Below (w.alloc (.cells #[.slice a g0.length cap] 22)).heap.size _ _)
      have := edges_fwd w.heap.size a cap (gN g0) (goodFwd (gN g0)) w' hgg ok (fun x y w2 hx hy hb2 =>
        fwd1_any x y w.heap.size (gN g0) a cap w2 (keep (by rw [hb.cell (p := ⟨w.heap.size, 0, none⟩) (by simp), gN_len]; exact hc0) hb2) (hgg.below hb2) ok hx)
      rwa [gN_len] at this
    have HRe : Hid (∀ w', Below w.heap.size w w' → Calls Try.prog 44 #[.slice a g0.length cap, .int .i64 (-1)] w' fun e w'' => e = .returned (tenV (rs (gN g0) (-1) 0)) ∧ Below w'.heap.size w' w'') := Lib.hid fun w' hb => by
      have := reach_any a cap (gN g0) (-1) w' ((hin.graph hv).below hb) ok
      rwa [gN_len] at this
    have hlen : g0.length = (gN g0).length := by rw [gN_len]
    have HHit : Hid (∀ T v, (edgesL (gN g0) (goodFwd (gN g0))).any (hitB T v) = true ↔ ∃ u, T u = true ∧ fwdR (gN g0) u v) := Lib.hid (fun T v => any_hit (T := T) (v := v) ok)
    have HF := Lib.hid (edgesL_fst (good := goodFwd (gN g0)) ok)
    have hFl := edgesL_len (good := goodFwd (gN g0)) ok
    have HOut := Lib.hid (fun j h => rs_out (but := -1) (j := j) ok ok.pos h)
    rw [hn]; rw [hv] at HV; rw [hv]
    unfold redB
    rw [hlen] at HV HE HRe hc0 hbl; rw [hlen]
    clear hin hs hv hn hlen
    generalize gN g0 = g at *
    have h10 := ok.ten
    generalize edgesL g (goodFwd g) = F at *
    generalize rs g (-1) 0 = S0 at *
    generalize fwdR g = R at *
    go_enter Try.func13, Try.ntmps13
    go_wp2_with fail
    refine HV.out.mono ?_; rintro e w1 ⟨rfl, hb1⟩
    have hc1 : w1.cell? ⟨w.heap.size, 0, none⟩ = some (.slice a g.length cap) := by rw [bc hb1 (b := w.heap.size) (by simp)]; simp [go_sem]
    have hB1 := hbl.trans (hb1.mono hbl.size)
    have HE1 := Lib.hid (HE.out _ (hb1.mono (by simp)))
    clear HE HV
    go_wp2_with fail
    refine HE1.out.mono ?_; rintro e w2 ⟨v2, rfl, hp2, hb2⟩
    obtain ⟨fa, fcap, rfl, hF⟩ := pairsIn_of hp2
    have hc2 := keep hc1 hb2
    have HRe2 := Lib.hid (HRe.out _ (hB1.trans (hb2.mono hB1.size)))
    have HB2 := Lib.hid (hB1.trans (hb2.mono hB1.size)); have HF2 := Lib.hid hF
    clear hc0 hc1 hB1 hb1 hb2 hp2 hF HE1 HRe hbl
    go_wp2_with fail
    refine HRe2.out.mono ?_; rintro e w3 ⟨rfl, hb3⟩
    have hc3 := keep hc2 hb3
    have HB3 := Lib.hid (HB2.out.trans (hb3.mono HB2.out.size)); have HF3 := Lib.hid (HF2.out.below hb3)
    clear hc2 hb3 HB2 HF2 HRe2
    have hsz3 := block_lt_of_cell hc3
    unfold tenV bools
    go_wp2_with fail
    have ht0 : Ten (w3.alloc (.cells (bools S0) 54)) w3.heap.size S0 := heap_at _ _ _ rfl
    have hb0 : Below w3.heap.size w3 (w3.alloc (.cells (bools S0) 54)) := (Below.refl _ _).alloc (Nat.le_refl _) _
    have HT0 := Lib.hid ht0; have HB0 := Lib.hid hb0
    clear ht0 hb0
    unfold bools at HT0 HB0
    have HPeel0 : Hid (Peel R S0 0 S0) := Lib.hid Peel.zero
    generalize hw4 : w3.alloc (.cells #[.bool (S0 0), .bool (S0 1), .bool (S0 2), .bool (S0 3), .bool (S0 4), .bool (S0 5), .bool (S0 6), .bool (S0 7), .bool (S0 8), .bool (S0 9)] 54) = w4 at *
    clear hw4
    generalize hq : w3.heap.size = q at *
    have HQ := Lib.hid hq; clear hq
    go_loopw [21] (fun i wr => ∃ (k : Nat) (T : NSet), k ≤ g.length ∧ i = .int .i64 k ∧ Peel R S0 k T ∧ Ten wr q T ∧ Below q w3 wr) (fun i _ => g.length - (intOf i).toNat)
    case atStart => exact ⟨0, S0, Nat.zero_le _, rfl, HPeel0.out, HT0.out, HB0.out⟩
    case round =>
      obtain ⟨k, T, hk, rfl, hpe, hT, hb⟩ := hrel
      by_cases hlt : k < g.length
      · have c0 := hT.cell (k := 0) (by decide); have c1 := hT.cell (k := 1) (by decide); have c2 := hT.cell (k := 2) (by decide); have c3 := hT.cell (k := 3) (by decide); have c4 := hT.cell (k := 4) (by decide)
        have c5 := hT.cell (k := 5) (by decide); have c6 := hT.cell (k := 6) (by decide); have c7 := hT.cell (k := 7) (by decide); have c8 := hT.cell (k := 8) (by decide); have c9 := hT.cell (k := 9) (by decide)
        have hL := list_any T wr
        unfold tenV bools at hL
        have HL := Lib.hid hL
        have HPe := Lib.hid hpe; have HT := Lib.hid hT; have HB := Lib.hid hb
        clear hpe hT hb hL
        go_wp2_with fail
        refine HL.out.mono ?_; rintro e w5 ⟨v5, rfl, ⟨la, lcap, rfl, hl⟩, hb5⟩
        clear c0 c1 c2 c3 c4 c5 c6 c7 c8 c9
        have hqw : q < wr.heap.size := HT.out.lt
        have HT5 := Lib.hid (HT.out.below hb5); have HB5 := Lib.hid (HB.out.trans (hb5.mono (by omega))); have HL5 := Lib.hid hl
        have HNe := Lib.hid (nats_ne hl HT5.out)
        have hLm : ∀ j, j < (setL T).length → (setL T).getD j 0 < 10 ∧ T ((setL T).getD j 0) = true := fun j hj => setL_mem.1 (getD_mem_any 0 hj)
        have HLm := Lib.hid hLm
        have hLl : (setL T).length ≤ 10 := setUpto_len _ 10
        have hall : ∀ j, T j = true → j ∈ setL T := fun j hj => setL_mem.2 ⟨by
          apply Nat.lt_of_not_le
          intro c
          have := HOut.out j (by omega)
          rw [HPe.out.sub j hj] at this
          exact Bool.noConfusion this, hj⟩
        have HAll := Lib.hid hall
        generalize setL T = L at *
        clear hb5 hl hLm HL HT HB hall
        go_wp2_with fail
        go_loopw [26] (fun i wr => ∃ (j : Nat) (U : NSet), j ≤ L.length ∧ i = .int .i64 j ∧ Peel1 R T L j U ∧ Ten wr q U ∧ NatsIn wr la L ∧ Below q w3 wr) (fun i _ => L.length - (intOf i).toNat)
        case atStart => exact ⟨0, T, Nat.zero_le _, rfl, Peel1.zero, HT5.out, HL5.out, HB5.out⟩
        case round =>
          obtain ⟨j, U, hj, rfl, hpe, hT, hl, hb⟩ := hrel
          by_cases hjl : j < L.length
          · obtain ⟨b, off, rfl, hx⟩ := hl j hjl
            have hv10 := (HLm.out j hjl).1
            have hgo := hpe.goes hv10 (HLm.out j hjl).2
            have hst := hpe.stays
            have hhit := HHit.out U (L.getD j 0)
            have hqw2 : q < wr.heap.size := hT.lt
            have hbx := block_lt_of_cell hx
            have hal : Below wr.heap.size wr (wr.alloc (.cells #[.int .i64 ((L.getD j 0 : Nat) : Int)] 3)) := (Below.refl _ _).alloc (Nat.le_refl _) _
            have hCon := con_hit U (L.getD j 0) wr.heap.size q F fa fcap _ ((HF3.out.below (hb.mono (by have := HQ.out; omega))).below hal) hFl HF.out (by simp [go_sem]) (hT.below hal)
            have HGo := Lib.hid hgo; have HSt := Lib.hid hst; have HHit1 := Lib.hid hhit
            have HPe1 := Lib.hid hpe; have HT1 := Lib.hid (hT.below hal); have HL1 := Lib.hid (hl.below hal); have HB1 := Lib.hid (hb.trans (hal.mono (by omega)))
            have HCon := Lib.hid hCon
            clear hgo hst hhit hpe hT hl hb hal hCon
            generalize hvv : L.getD j 0 = v at *
            have HVV := Lib.hid hvv; clear hvv
            cases hany : F.any (hitB U v)
            · rw [hany] at HCon HHit1
              have HG := Lib.hid (HGo.out (fun u hu hr => by have := HHit1.out.2 ⟨u, hu, hr⟩; cases this))
              clear hany
              go_wp2_with fail
              refine HCon.out.mono ?_; rintro e w6 ⟨rfl, hb6⟩
              have hvc := bc hb6 (b := wr.heap.size) (by simp)
              have hT6 := HT1.out.below hb6
              have hf6 := hT6.free v
              have hc6 := hT6.cell hv10
              have HT6 := Lib.hid hT6; have HL6 := Lib.hid (HL1.out.below hb6); have HB6 := Lib.hid (HB1.out.trans (hb6.mono (by simp; omega)))
              clear hb6 hT6
              go_wp2_with fail
              go_roundw
              case rel => exact ⟨j + 1, erase U v, by omega, by go_num, HG.out, HT6.out.set hv10 false, HL6.out.set HNe.out, HB6.out.setCell (Nat.le_refl _) _⟩
              case measure => simp [intOf]; omega
            · rw [hany] at HCon HHit1
              have HS := Lib.hid (HSt.out (HHit1.out.1 rfl))
              clear hany
              go_wp2_with fail
              refine HCon.out.mono ?_; rintro e w6 ⟨rfl, hb6⟩
              have HT6 := Lib.hid (HT1.out.below hb6); have HL6 := Lib.hid (HL1.out.below hb6); have HB6 := Lib.hid (HB1.out.trans (hb6.mono (by simp; omega)))
              clear hb6
              go_wp2_with fail
              go_roundw
              case rel => exact ⟨j + 1, U, by omega, by go_num, HS.out, HT6.out, HL6.out, HB6.out⟩
              case measure => simp [intOf]; omega
          · obtain rfl : j = L.length := by omega
            have HNx := Lib.hid (HPe.out.next hpe HAll.out)
            have HT1 := Lib.hid hT; have HB1 := Lib.hid hb
            clear hpe hT hb hl
            go_wp2_with fail
            go_roundw
            case rel => exact ⟨k + 1, U, by omega, by go_num, HNx.out, HT1.out, HB1.out⟩
            case measure => simp [intOf]; omega
      · obtain rfl : k = g.length := by omega
        have c0 := hT.cell (k := 0) (by decide); have c1 := hT.cell (k := 1) (by decide); have c2 := hT.cell (k := 2) (by decide); have c3 := hT.cell (k := 3) (by decide); have c4 := hT.cell (k := 4) (by decide)
        have c5 := hT.cell (k := 5) (by decide); have c6 := hT.cell (k := 6) (by decide); have c7 := hT.cell (k := 7) (by decide); have c8 := hT.cell (k := 8) (by decide); have c9 := hT.cell (k := 9) (by decide)
        have hfin := hpe.fin h10 HOut.out
        have heq := eq_none T wr
        rw [empty_all (fun j hj => by
          apply Nat.lt_of_not_le
          intro c
          have := HOut.out j (by omega)
          rw [hpe.sub j hj] at this; cases this)] at heq
        unfold bools at heq
        have HFin := Lib.hid hfin; have HT1 := Lib.hid hT; have HB1 := Lib.hid hb
        clear hpe hfin hT hb
        go_wp2_with fail
        go_ret2
        exact ⟨ret_not HFin.out, HB3.out.trans (HB1.out.mono (by omega))⟩
  · have hn : redR g0 = false := by unfold redR; rw [if_neg hv]
    rw [hn]
    generalize validE g0 = V at *
    have hvb : (V != 0) = true := by simpa using hv
    clear hv hn hc0
    go_enter Try.func13, Try.ntmps13
    go_wp2_with fail
    refine HV.out.mono ?_; rintro e w1 ⟨rfl, hb1⟩
    go_wp2_with fail
    go_ret2
    exact ⟨rfl, hbl.trans (hb1.mono hbl.size)⟩
end Go.Proofs.Ytmljmmnofhhheaa
