/- The walk of color, the search of the document. -/
import Derived.Test.YtgpacajlfclobaaQ8
namespace Go.Proofs.Ytgpacajlfclobaa
open Go.RowKit

theorem not_f {X : Bool} (h : false = !X) : X = true := by
  cases X
  · cases h
  · rfl
theorem not_t {X : Bool} (h : true = !X) : X = false := by
  cases X
  · rfl
  · cases h
theorem topF_le {g : Regs} {k : Nat} : ∀ v, (∀ j, j < v → g j < k) → topF g v ≤ k
  | 0, _ => Nat.zero_le _
  | v + 1, h => by
    have := topF_le v fun j hj => h j (by omega)
    have := h v (by omega)
    show max (topF g v) (g v + 1) ≤ k
    omega
theorem toN_get {es : List (Int × Int)} {n : Nat} (he : edgedB (n : Nat) es = true) {x : Nat} (hx : x < es.length) : ∃ ex ey : Nat, es.getD x (0, 0) = ((ex : Int), (ey : Int)) ∧ (toN es).getD x (0, 0) = (ex, ey) ∧ ex < n ∧ ey < n ∧ ex ≠ ey := by
  obtain ⟨_, _, hok⟩ := edged_ok he
  have h := hok _ (show es.getD x (0, 0) ∈ es by rw [List.getD_eq_getElem?_getD, List.getElem?_eq_getElem hx]; simp)
  rw [toN_at]
  generalize es.getD x (0, 0) = m at *
  obtain ⟨u, v⟩ := m
  simp only at h
  exact ⟨u.toNat, v.toNat, by rw [Int.toNat_of_nonneg h.1.1, Int.toNat_of_nonneg h.2.1.1], rfl, by omega, by omega, by omega⟩

set_option maxRecDepth 100000 in
set_option maxHeartbeats 8000000 in
theorem color_any (q n k : Nat) (es : List (Int × Int)) (a : Option Addr) (cap : Nat) (hl : es.length ≤ 1000) (he : edgedB (n : Nat) es = true) (hk8 : k ≤ 8) (hna : ∀ k, k < es.length → ∀ b off, a = some ⟨b, off, none⟩ → b ≠ q) : ∀ (d v : Nat) (g : Regs) (w : World), v + d = n → (∀ j, j < v → g j < k) →
    MovesIn w a es → NRow w q n g →
    Calls Try.prog 40 #[.int .i64 (n : Nat), .int .i64 (k : Nat), .int .i64 (v : Nat), .slice a es.length cap, .slice (some ⟨q, 0, none⟩) n n] w fun e w' => e = .returned (.bool (canF (toN es) k d v (topF g v) g)) ∧ (∃ g', NRow w' q n g' ∧ ∀ j, j < v → g' j = g j) ∧ Save q w w' := by
  intro d
  induction d with
  | zero =>
    intro v g w hd _ _ hrow
    obtain rfl : v = n := by omega
    have hvv : ((v : Int) == (v : Int)) = true := by simp
    have HRow := Lib.hid hrow
    have hR : canF (toN es) k 0 v (topF g v) g = true := rfl
    rw [hR]
    clear hrow hR hd
    go_enter Try.func40, Try.ntmps40
    go_wp2_with fail
    go_ret
    exact ⟨rfl, ⟨g, HRow.out, fun _ _ => rfl⟩, Save.refl _ _⟩
  | succ d ih =>
    intro v g w hd hgk hin hrow
    have hn12 := (edged_ok he).2.1
    have HI := Lib.hid ih; clear ih
    have HGet : Hid (∀ x, x < es.length → ∃ ex ey : Nat, es.getD x (0, 0) = ((ex : Int), (ey : Int)) ∧ (toN es).getD x (0, 0) = (ex, ey) ∧ ex < n ∧ ey < n ∧ ex ≠ ey) := Lib.hid fun x hx => toN_get he hx
    have HYes : Hid (∀ c, c < min (topF g v + 1) k → tryB (toN es) k d v (topF g v) g c = true → canF (toN es) k (d + 1) v (topF g v) g = true) := Lib.hid fun c => canF_yes
    have HNo : Hid ((∀ c, c < min (topF g v + 1) k → tryB (toN es) k d v (topF g v) g c = false) → canF (toN es) k (d + 1) v (topF g v) g = false) := Lib.hid canF_no
    have HTry : Hid (∀ c, tryB (toN es) k d v (topF g v) g c = (fitF (toN es) g v c && canF (toN es) k d (v + 1) (max (topF g v) (c + 1)) (upd g v c))) := Lib.hid fun _ => rfl
    have HTop : Hid (∀ i, topF g (i + 1) = max (topF g i) (g i + 1)) := Lib.hid fun _ => rfl
    have HTk : Hid (∀ i, i ≤ v → topF g i ≤ k) := Lib.hid fun i hi => topF_le i fun j hj => hgk j (by omega)
    have HElen : Hid ((toN es).length = es.length) := Lib.hid (toN_len es)
    have HIn := Lib.hid hin; have HRow := Lib.hid hrow; have HGk := Lib.hid hgk; have HNa := Lib.hid hna
    have hvn : v < n := by omega
    have hvi : (v : Int) < (n : Int) := by omega
    have hvb : ((v : Int) == (n : Int)) = false := by rw [beq_eq_false_iff_ne]; omega
    have hve : ¬ (v : Int) = (n : Int) := by omega
    clear hin hrow he hgk hna
    generalize toN es = E at *
    generalize canF E k (d + 1) v (topF g v) g = R at *
    go_enter Try.func40, Try.ntmps40
    go_wp2_with fail
    go_loopw [11, 12] (fun t i wr => ∃ j : Nat, j ≤ v ∧ i = .int .i64 j ∧ t = .int .i64 (topF g j : Nat) ∧ w = wr) (fun _ i _ => v - (intOf i).toNat)
    case atStart => exact ⟨0, Nat.zero_le _, rfl, rfl, rfl⟩
    case round =>
      obtain ⟨j, hj, rfl, rfl, rfl⟩ := hrel
      by_cases hjv : j < v
      · have hji : (j : Int) < (v : Int) := by omega
        have hjn : (j : Int) < (n : Int) := by omega
        have c1 := HRow.out.cell (show j < n by omega)
        have HT1 := Lib.hid (HTop.out j)
        have htk := HTk.out (j + 1) (by omega)
        have htj := HTk.out j (by omega)
        rw [HT1.out] at htk
        generalize topF g j = tj at *
        generalize g j = gj at *
        obtain ⟨mm, hm1, hm2⟩ : ∃ mm : Nat, max tj (gj + 1) = mm ∧ max (tj : Int) ((gj : Int) + 1) = (mm : Int) := ⟨max tj (gj + 1), rfl, by omega⟩
        rw [hm1] at HT1
        have hgj : gj ≤ 8 := by omega
        clear hm1 htk
        go_wp2_with fail
        go_roundw
        case rel => exact ⟨j + 1, by omega, by go_num, by rw [HT1.out], trivial⟩
        case measure => simp [intOf]; omega
      · have hji : ¬ (j : Int) < (v : Int) := by omega
        obtain rfl : j = v := by omega
        have htk := HTk.out j (Nat.le_refl _)
        clear HTop HTk
        generalize hT : topF g j = T at *
        have HT := Lib.hid hT; clear hT
        obtain ⟨m, hm⟩ : ∃ m : Nat, min (T + 1) k = m := ⟨_, rfl⟩
        rw [hm] at HYes HNo
        go_wp2_with fail
        go_loopw [13] (fun i wr => ∃ c : Nat, c ≤ m ∧ i = .int .i64 c ∧ (∀ x, x < c → tryB E k d j T g x = false) ∧ (∃ g', NRow wr q n g' ∧ ∀ x, x < j → g' x = g x) ∧ Save q w wr) (fun i _ => m - (intOf i).toNat)
        case atStart => exact ⟨0, Nat.zero_le _, rfl, fun x hx => absurd hx (Nat.not_lt_zero _), ⟨g, HRow.out, fun _ _ => rfl⟩, Save.refl _ _⟩
        case round =>
          obtain ⟨c, hc, rfl, hnone, ⟨g', hrow', hag⟩, hsv⟩ := hrel
          have HNone := Lib.hid hnone; have HRow' := Lib.hid hrow'; have HAg := Lib.hid hag; have HSv := Lib.hid hsv
          clear hnone hrow' hag hsv
          by_cases hcm : c < m
          · have hck : (c : Int) < (k : Int) := by omega
            have hct : (c : Int) ≤ (T : Int) := by omega
            have hc8 : c ≤ 8 := by omega
            have hfc : fitF E g' j c = fitF E g j c := fitF_congr HAg.out
            have HTj := Lib.hid (HTry.out c)
            have HYj := Lib.hid (HYes.out c hcm)
            have HNext : Hid (tryB E k d j T g c = false → ∀ x, x < c + 1 → tryB E k d j T g x = false) := Lib.hid fun h x hx => by
              by_cases e : x = c
              · subst e; exact h
              · exact HNone.out x (by omega)
            have HMI := Lib.hid (HIn.out.saved HSv.out HNa.out)
            have HFit : Hid (fitF E g j c = !(E.any (touchF g' j c))) := Lib.hid hfc.symm
            have e1 : (((j + 1 : Nat) : Nat) : Int) = (j : Int) + 1 := by omega
            have hcc : canF E k d (j + 1) (topF (upd g' j c) (j + 1)) (upd g' j c) = canF E k d (j + 1) (max T (c + 1)) (upd g j c) := by
              rw [topF_upd, topF_congr j HAg.out, HT.out]
              exact canF_congr d _ _ (upd_congr HAg.out)
            have HI1 : Hid (∀ w', Save q w w' → NRow w' q n (upd g' j c) → Calls Try.prog 40 #[.int .i64 (n : Nat), .int .i64 (k : Nat), .int .i64 ((j : Int) + 1), .slice a es.length cap, .slice (some ⟨q, 0, none⟩) n n] w' fun e w'' => e = .returned (.bool (canF E k d (j + 1) (max T (c + 1)) (upd g j c))) ∧ (∃ g2, NRow w'' q n g2 ∧ ∀ x, x < j + 1 → g2 x = upd g' j c x) ∧ Save q w' w'') := Lib.hid fun w' h1 h2 => by
              have := HI.out (j + 1) (upd g' j c) w' (by omega) (fun x hx => by
                by_cases e : x = j
                · subst e; rw [upd_at]; omega
                · rw [upd_ne e, HAg.out x (by omega)]; exact HGk.out x (by omega)) (HIn.out.saved h1 HNa.out) h2
              rw [hcc, e1] at this
              exact this
            have HTh : Hid (∀ x, x < es.length → (E.take (x + 1)).any (touchF g' j c) = ((E.take x).any (touchF g' j c) || touchF g' j c (E.getD x (0, 0)))) := Lib.hid fun x hx => any_take E (touchF g' j c) (0, 0) x (by rw [HElen.out]; exact hx)
            have HAl : Hid (E.any (touchF g' j c) = (E.take es.length).any (touchF g' j c)) := Lib.hid (by rw [← HElen.out, List.take_length])
            have HOf : Hid (∀ x, (E.take x).any (touchF g' j c) = true → E.any (touchF g' j c) = true) := Lib.hid fun x h => any_of_take E _ x h
            clear hfc hcc e1
            go_wp2_with fail
            go_loopw [14, 15] (fun ok i ws => ∃ (x : Nat) (b : Bool), x ≤ es.length ∧ i = .int .i64 x ∧ ok = .bool b ∧ (b = !((E.take x).any (touchF g' j c))) ∧ wr = ws) (fun _ i _ => es.length - (intOf i).toNat)
            case atStart => exact ⟨0, true, Nat.zero_le _, rfl, rfl, by simp, rfl⟩
            case round =>
              obtain ⟨x, b, hx, rfl, rfl, hb, rfl⟩ := hrel
              cases b
              · have HFf : Hid (fitF E g j c = false) := Lib.hid (by
                  rw [HFit.out, HOf.out x (not_f hb)]; rfl)
                have HN1 := Lib.hid (HNext.out (by rw [HTj.out, HFf.out]; rfl))
                have f3 := HRow'.out.free j; have c3 := HRow'.out.cell hvn
                clear hb HI HI1 HYes HNo HTry HYj HMI HTh HAl HGet HNa HIn HElen HGk HNext HTj HFit HFf HOf HNone
                by_cases hxl : x < es.length
                · have hxi : (x : Int) < (es.length : Int) := by omega
                  go_wp2_with fail
                  go_roundw
                  case rel => exact ⟨c + 1, by omega, by go_num, HN1.out, ⟨_, HRow'.out.set j c, fun y hy => by rw [upd_ne (by omega)]; exact HAg.out y hy⟩, HSv.out.trans (Save.set q j _ _)⟩
                  case measure => simp [intOf]; omega
                · have hxi : ¬ (x : Int) < (es.length : Int) := by omega
                  go_wp2_with fail
                  go_roundw
                  case rel => exact ⟨c + 1, by omega, by go_num, HN1.out, ⟨_, HRow'.out.set j c, fun y hy => by rw [upd_ne (by omega)]; exact HAg.out y hy⟩, HSv.out.trans (Save.set q j _ _)⟩
                  case measure => simp [intOf]; omega
              · have HAny : Hid ((E.take x).any (touchF g' j c) = false) := Lib.hid (not_t hb)
                clear hb
                by_cases hxl : x < es.length
                · have hxi : (x : Int) < (es.length : Int) := by omega
                  obtain ⟨ex, ey, h1, h2, hex, hey, hexy⟩ := HGet.out x hxl
                  obtain ⟨be, eoff, rfl, ce1, ce2⟩ := HMI.out x hxl
                  rw [h1] at ce1 ce2
                  have ce1 : World.cell? _ ⟨be, eoff + x * 2, none⟩ = some (.int .i64 (ex : Nat)) := ce1
                  have ce2 : World.cell? _ ⟨be, eoff + x * 2 + 1, none⟩ = some (.int .i64 (ey : Nat)) := ce2
                  have d1 := HRow'.out.cell hex
                  have d2 := HRow'.out.cell hey
                  have HT1 := Lib.hid (HTh.out x hxl)
                  have ht : touchF g' j c (ex, ey) = ((decide (ex = j) && (decide (ey < j) && decide (g' ey = c))) || (decide (ey = j) && (decide (ex < j) && decide (g' ex = c)))) := rfl
                  rw [h2, HAny.out, Bool.false_or, ht] at HT1
                  clear h1 h2 ht
                  have hexi : (ex : Int) < (n : Int) := by omega
                  have heyi : (ey : Int) < (n : Int) := by omega
                  generalize g' ex = gx at *
                  generalize g' ey = gy at *
                  have HNt : Hid ((E.take (x + 1)).any (touchF g' j c) = true → false = !((E.take (x + 1)).any (touchF g' j c))) := Lib.hid fun h => by rw [h]; rfl
                  have HNf : Hid ((E.take (x + 1)).any (touchF g' j c) = false → true = !((E.take (x + 1)).any (touchF g' j c))) := Lib.hid fun h => by rw [h]; rfl
                  clear HI HI1 HYes HNo HTry HYj HMI HTh HAl HGet HNa HIn HElen HGk HNext HTj HFit HOf HNone HAg HSv HRow' HRow HAny HT
                  by_cases h1 : ex = j
                  · have h2 : ¬ ey = j := fun h => hexy (by omega)
                    by_cases h3 : ey < j
                    · by_cases h4 : gy = c
                      · have HZ := Lib.hid (HNt.out (by rw [HT1.out]; simp [h1, h3, h4]))
                        have b1 : (ex : Int) = (j : Int) := by omega
                        have b2 : ¬ (ey : Int) = (j : Int) := by omega
                        have b2' : ((ey : Int) == (j : Int)) = false := beq_eq_false_iff_ne.2 b2
                        have b4 : ¬ (j : Int) ≤ (ey : Int) := by omega
                        subst h4
                        go_wp2_with fail
                        go_roundw
                        case rel => exact ⟨x + 1, false, by omega, by go_num, rfl, HZ.out, trivial⟩
                        case measure => simp [intOf]; omega
                      · have HZ := Lib.hid (HNf.out (by rw [HT1.out]; simp [h2, h4]))
                        have b1 : (ex : Int) = (j : Int) := by omega
                        have b2 : ¬ (ey : Int) = (j : Int) := by omega
                        have b2' : ((ey : Int) == (j : Int)) = false := beq_eq_false_iff_ne.2 b2
                        have b4 : ¬ (j : Int) ≤ (ey : Int) := by omega
                        have b6 : ¬ (gy : Int) = (c : Int) := by omega
                        have b6' : ((gy : Int) != (c : Int)) = true := bne_iff_ne.2 b6
                        go_wp2_with fail
                        go_roundw
                        case rel => exact ⟨x + 1, true, by omega, by go_num, rfl, HZ.out, trivial⟩
                        case measure => simp [intOf]; omega
                    · have HZ := Lib.hid (HNf.out (by rw [HT1.out]; simp [h2, h3]))
                      have b1 : (ex : Int) = (j : Int) := by omega
                      have b2 : ¬ (ey : Int) = (j : Int) := by omega
                      have b2' : ((ey : Int) == (j : Int)) = false := beq_eq_false_iff_ne.2 b2
                      have b4 : (j : Int) ≤ (ey : Int) := by omega
                      go_wp2_with fail
                      go_roundw
                      case rel => exact ⟨x + 1, true, by omega, by go_num, rfl, HZ.out, trivial⟩
                      case measure => simp [intOf]; omega
                  · by_cases h2 : ey = j
                    · by_cases h3 : ex < j
                      · by_cases h4 : gx = c
                        · have HZ := Lib.hid (HNt.out (by rw [HT1.out]; simp [h2, h3, h4]))
                          have b2 : (ey : Int) = (j : Int) := by omega
                          have b1 : ¬ (ex : Int) = (j : Int) := by omega
                          have b1' : ((ex : Int) == (j : Int)) = false := beq_eq_false_iff_ne.2 b1
                          have b3 : ¬ (j : Int) ≤ (ex : Int) := by omega
                          subst h4
                          go_wp2_with fail
                          go_roundw
                          case rel => exact ⟨x + 1, false, by omega, by go_num, rfl, HZ.out, trivial⟩
                          case measure => simp [intOf]; omega
                        · have HZ := Lib.hid (HNf.out (by rw [HT1.out]; simp [h1, h4]))
                          have b2 : (ey : Int) = (j : Int) := by omega
                          have b1 : ¬ (ex : Int) = (j : Int) := by omega
                          have b1' : ((ex : Int) == (j : Int)) = false := beq_eq_false_iff_ne.2 b1
                          have b3 : ¬ (j : Int) ≤ (ex : Int) := by omega
                          have b5 : ¬ (gx : Int) = (c : Int) := by omega
                          have b5' : ((gx : Int) != (c : Int)) = true := bne_iff_ne.2 b5
                          go_wp2_with fail
                          go_roundw
                          case rel => exact ⟨x + 1, true, by omega, by go_num, rfl, HZ.out, trivial⟩
                          case measure => simp [intOf]; omega
                      · have HZ := Lib.hid (HNf.out (by rw [HT1.out]; simp [h1, h3]))
                        have b2 : (ey : Int) = (j : Int) := by omega
                        have b1 : ¬ (ex : Int) = (j : Int) := by omega
                        have b1' : ((ex : Int) == (j : Int)) = false := beq_eq_false_iff_ne.2 b1
                        have b3 : (j : Int) ≤ (ex : Int) := by omega
                        go_wp2_with fail
                        go_roundw
                        case rel => exact ⟨x + 1, true, by omega, by go_num, rfl, HZ.out, trivial⟩
                        case measure => simp [intOf]; omega
                    · have HZ := Lib.hid (HNf.out (by rw [HT1.out]; simp [h1, h2]))
                      have b1 : ¬ (ex : Int) = (j : Int) := by omega
                      have b1' : ((ex : Int) == (j : Int)) = false := beq_eq_false_iff_ne.2 b1
                      have b2 : ¬ (ey : Int) = (j : Int) := by omega
                      have b2' : ((ey : Int) == (j : Int)) = false := beq_eq_false_iff_ne.2 b2
                      go_wp2_with fail
                      go_roundw
                      case rel => exact ⟨x + 1, true, by omega, by go_num, rfl, HZ.out, trivial⟩
                      case measure => simp [intOf]; omega
                · have hxi : ¬ (x : Int) < (es.length : Int) := by omega
                  obtain rfl : x = es.length := by omega
                  have HFt : Hid (fitF E g j c = true) := Lib.hid (by rw [HFit.out, HAl.out, HAny.out]; rfl)
                  have f3 := HRow'.out.free j; have c3 := HRow'.out.cell hvn
                  have HRow4 := Lib.hid (HRow'.out.set j c)
                  have HSv4 := Lib.hid (HSv.out.trans (Save.set q j _ (.int .i64 (c : Nat))))
                  have HI2 := Lib.hid (HI1.out _ HSv4.out HRow4.out)
                  clear HI HI1 HYes HNo HTry HMI HTh HAl HGet HNa HIn HElen HGk HFit HOf HAny HT HRow
                  cases hcan : canF E k d (j + 1) (max T (c + 1)) (upd g j c)
                  · have HN1 := Lib.hid (HNext.out (by rw [HTj.out, hcan, Bool.and_false]))
                    rw [hcan] at HI2
                    clear hcan
                    go_wp2_with fail
                    refine HI2.out.mono ?_; rintro e w5 ⟨rfl, ⟨g2, hrow5, hag5⟩, hsv5⟩
                    have HRow5 := Lib.hid hrow5; have HAg5 := Lib.hid hag5; have HSv5 := Lib.hid (HSv4.out.trans hsv5)
                    clear hrow5 hag5 hsv5
                    go_wp2_with fail
                    go_roundw
                    case rel => exact ⟨c + 1, by omega, by go_num, HN1.out, ⟨g2, HRow5.out, fun y hy => by rw [HAg5.out y (by omega), upd_ne (by omega)]; exact HAg.out y hy⟩, HSv5.out⟩
                    case measure => simp [intOf]; omega
                  · have hR := HYj.out (by rw [HTj.out, HFt.out, hcan]; rfl)
                    subst hR
                    rw [hcan] at HI2
                    clear hcan
                    go_wp2_with fail
                    refine HI2.out.mono ?_; rintro e w5 ⟨rfl, ⟨g2, hrow5, hag5⟩, hsv5⟩
                    have HRow5 := Lib.hid hrow5; have HAg5 := Lib.hid hag5; have HSv5 := Lib.hid (HSv4.out.trans hsv5)
                    clear hrow5 hag5 hsv5
                    go_wp2_with fail
                    go_ret
                    exact ⟨rfl, ⟨g2, HRow5.out, fun y hy => by rw [HAg5.out y (by omega), upd_ne (by omega)]; exact HAg.out y hy⟩, HSv5.out⟩
          · have hR := HNo.out fun x hx => HNone.out x (by omega)
            subst hR
            by_cases hck : c < k
            · have hcki : (c : Int) < (k : Int) := by omega
              have hct : ¬ (c : Int) ≤ (T : Int) := by omega
              go_wp2_with fail
              go_ret
              exact ⟨rfl, ⟨g', HRow'.out, HAg.out⟩, HSv.out⟩
            · have hcki : ¬ (c : Int) < (k : Int) := by omega
              go_wp2_with fail
              go_ret
              exact ⟨rfl, ⟨g', HRow'.out, HAg.out⟩, HSv.out⟩
end Go.Proofs.Ytgpacajlfclobaa
