/- Plainly: no order costs less than the greatest sum, nor less than there are instructions; the law TimeBounds. -/
import Derived.Test.YtccpjfppkahbmaaG2
namespace Go.Proofs.Ytccpjfppkahbmaa
open Go.RowKit PK

theorem foldT_mono {f g : Int → Option Int} (h : ∀ r, (f r).getD 0 ≤ (g r).getD 0) : ∀ (rs : List Int) {s t : Int}, s ≤ t → foldT f rs s ≤ foldT g rs t
  | [], _, _, hs => hs
  | r :: rs, s, t, hs => by
    have h1 := h r
    have := foldT_mono h rs (s := max s ((f r).getD 0)) (t := max t ((g r).getD 0)) (by omega)
    unfold foldT at *
    rw [List.foldl_cons, List.foldl_cons]; exact this
theorem sum_le_iss (l : List Cd) : ∀ n i, i < n → sumAt l (sumN l i) i ≤ issAt l (issN l i) i + lat (atC l i).op
  | 0, _, h => by omega
  | n + 1, i, h => by
    have key : sumT l (sumN l i) i ≤ issAt l (issN l i) i := by
      unfold sumT issAt
      refine foldT_mono (fun r => ?_) _ (startT_small l i).1
      unfold sumF rdyF
      cases hl : lastW l r i with
      | none => simp
      | some j =>
        have hj := lastW_lt hl
        have ih := sum_le_iss l n j (by omega)
        simp only [Option.map_some, Option.getD_some]
        have e1 : (sumN l i).getD j 0 = sumAt l (sumN l j) j := by
          have : ∀ d, (sumN l (j + 1 + d)).getD j 0 = sumAt l (sumN l j) j := fun d => by
            induction d with
            | zero => exact sumN_new l j
            | succ d ihd => rw [show j + 1 + (d + 1) = (j + 1 + d) + 1 by omega, sumN_old (by omega)]; exact ihd
          have h2 := this (i - j - 1)
          rwa [show j + 1 + (i - j - 1) = i by omega] at h2
        rw [e1, issN_get hj]
        exact ih
    unfold sumAt
    omega
theorem iss_ge (l : List Cd) : ∀ i : Nat, (i : Int) ≤ issAt l (issN l i) i
  | 0 => by
    have := foldT_ge (rdyF l (issN l 0) 0) (usesL (atC l 0)) (startT (issN l 0) 0)
    unfold issAt
    have h0 : startT (issN l 0) 0 = 0 := rfl
    omega
  | i + 1 => by
    have ih := iss_ge l i
    have := foldT_ge (rdyF l (issN l (i + 1)) (i + 1)) (usesL (atC l (i + 1))) (startT (issN l (i + 1)) (i + 1))
    have h0 : startT (issN l (i + 1)) (i + 1) = issAt l (issN l i) i + 1 := by
      unfold startT
      rw [if_neg (Nat.succ_ne_zero i), Nat.add_sub_cancel, issN_new]
    unfold issAt at *
    omega
theorem cost_ge_bound (l : List Cd) : ∀ i : Nat, i ≤ l.length → bndN l i ≤ costN l i ∧ (i : Int) ≤ costN l i
  | 0, _ => by simp [bndN, costN]
  | i + 1, h => by
    have ih := cost_ge_bound l i (by omega)
    have h1 := sum_le_iss l (i + 1) i (Nat.lt_succ_self _)
    have h2 := iss_ge l i
    have h3 := lat_small (atC l i).op
    have h4 : (issN l l.length).getD i 0 = issAt l (issN l i) i := issN_get h
    simp only [bndN, costN]
    rw [h4]
    omega
theorem atC_map {l : List Cd} {order : List Int} {k : Nat} (h : k < order.length) : atC (applyL l order) k = atC l (order.getD k 0).toNat := by
  unfold applyL
  rw [atC_get (by simpa using h), List.getElem_map, List.getD_eq_getElem?_getD, List.getElem?_eq_getElem h]
  rfl
theorem tErr_of {m : List Cd} (h : m.length ≤ 40) (hok : ∀ k, k < m.length → okC (atC m k) = true) : tErr m = 0 := by
  unfold tErr
  rw [if_neg (by omega), if_pos]
  rw [List.all_eq_true]
  intro x hx
  obtain ⟨k, hk, rfl⟩ := mem_atC hx
  exact hok k hk
theorem app_facts {l : List Cd} {order : List Int} (h : appE l order = 0) : tErr (appL l order) = 0 ∧ (appL l order).length = l.length := by
  obtain ⟨h1, _⟩ := appE_zero h
  obtain ⟨h2, hp⟩ := ordE_zero h1
  obtain ⟨h40, hok⟩ := tErr_zero h2
  have e : appL l order = applyL l order := if_pos h
  rw [e]
  have hl : (applyL l order).length = l.length := by rw [applyL_len]; exact hp.1
  refine ⟨tErr_of (by omega) fun k hk => ?_, hl⟩
  rw [applyL_len] at hk
  rw [atC_map hk]
  have := permO_get hp hk
  exact hok _ (by omega)
theorem app_cost {l : List Cd} {order : List Int} (h : appE l order = 0) : bndV (appL l order) ≤ costV (appL l order) ∧ (l.length : Int) ≤ costV (appL l order) := by
  obtain ⟨h1, h2⟩ := app_facts h
  have h3 := cost_ge_bound (appL l order) _ (Nat.le_refl _)
  unfold bndV costV
  rw [if_pos h1, if_pos h1]
  rw [h2] at h3 ⊢
  exact h3
set_option maxRecDepth 100000 in
set_option maxHeartbeats 2000000 in
theorem timeBounds_any (l : List Cd) (a : Option Addr) (cap : Nat) (order : List Int) (oa : Option Addr) (ocap : Nat) (w : World) (hin : CdsIn w a l) (hlc : l.length ≤ cap) (ho : IntsIn w oa order) :
    Calls Try.prog 7 #[.slice a l.length cap, .slice oa order.length ocap] w fun e w' => e = .returned (.bool true) ∧ Below w.heap.size w w' := by
  have HK := Lib.hid known_any
  have HLo := Lib.hid (long_any l.length cap a w)
  by_cases h100 : (100 : Int) < (l.length : Int)
  · rw [decide_eq_true h100] at HLo
    clear hin h100 hlc ho
    generalize l.length = n at *
    generalize order.length = on at *
    go_enter Try.func7, Try.ntmps7
    go_wp2_with fail
    refine HLo.out.mono ?_; rintro e w1 ⟨rfl, rfl⟩
    go_wp2_with fail
    refine (HK.out _).mono ?_; rintro e w2 ⟨rfl, hb2⟩
    go_wp2_with fail
    go_ret
    exact ⟨rfl, hb2⟩
  rw [decide_eq_false h100] at HLo
  by_cases h200 : (200 : Int) < (order.length : Int)
  · clear hin h100 hlc ho
    generalize l.length = n at *
    generalize order.length = on at *
    go_enter Try.func7, Try.ntmps7
    go_wp2_with fail
    refine HLo.out.mono ?_; rintro e w1 ⟨rfl, rfl⟩
    go_wp2_with fail
    refine (HK.out _).mono ?_; rintro e w2 ⟨rfl, hb2⟩
    go_wp2_with fail
    go_ret
    exact ⟨rfl, hb2⟩
  have hl : l.length ≤ 1099511627776 := by omega
  have hol : order.length ≤ 100000 := by omega
  have H1 := Lib.hid (fun (w' : World) (hb : Below w.heap.size w w') => Bound_any l a cap w' (hin.below hb) hl)
  have H2 := Lib.hid (fun (w' : World) (hb : Below w.heap.size w w') => rBound_any l a cap w' (hin.below hb) hl)
  have H3 := Lib.hid (fun (w' : World) (hb : Below w.heap.size w w') => Apply_any l a cap order oa ocap w' (hin.below hb) hlc hl (ho.below hb) hol)
  have HZ : Hid (appE l order = 0 → tErr (appL l order) = 0 ∧ (appL l order).length = l.length) := Lib.hid app_facts
  have HC : Hid (appE l order = 0 → bndV (appL l order) ≤ costV (appL l order) ∧ (l.length : Int) ≤ costV (appL l order)) := Lib.hid app_cost
  have H4 := Lib.hid (fun (c : Nat) (p : Option Addr) (u : World) (h : CdsIn u p (appL l order)) (hh : (appL l order).length ≤ 1099511627776) => Cost_any (appL l order) p c u h hh)
  have H5 := Lib.hid (fun (c : Nat) (p : Option Addr) (u : World) (h : CdsIn u p (appL l order)) (hh : (appL l order).length ≤ 1099511627776) => Bound_any (appL l order) p c u h hh)
  clear hin ho hlc hol
  unfold BoundPost at H1 H2 H5
  unfold ApplyPost at H3
  unfold CostPost at H4
  generalize appL l order = M at *
  generalize appE l order = ae at *
  generalize bndV l = bl at *
  generalize bndV M = bm at *
  generalize costV M = cm at *
  generalize tErr l = te at *
  generalize tErr M = tm at *
  generalize l.length = n at *
  generalize order.length = on at *
  go_enter Try.func7, Try.ntmps7
  go_wp2_with fail
  refine HLo.out.mono ?_; rintro e w1 ⟨rfl, rfl⟩
  clear HLo
  go_wp2_with fail
  refine (H1.out _ (Below.refl _ _)).mono ?_; rintro e w1 ⟨rfl, hb1⟩
  have HB1 := Lib.hid hb1
  clear hb1 H1
  go_wp2_with fail
  refine (H2.out _ HB1.out).mono ?_; rintro e w2 ⟨rfl, hb2⟩
  have HB2 := Lib.hid (HB1.out.trans (hb2.mono HB1.out.size))
  clear hb2 H2
  go_wp2_with fail
  refine (H3.out _ HB2.out).mono ?_; rintro e w3 ⟨⟨ra, rc, rfl, hr3, hrc⟩, hb3⟩
  have HB3 := Lib.hid (HB2.out.trans (hb3.mono HB2.out.size))
  have HR3 := Lib.hid hr3
  clear hb3 hr3 H3
  by_cases hte : te = 0
  · by_cases hae : ae = 0
    · obtain ⟨e1, e2⟩ := HZ.out hae
      obtain ⟨e3, e4⟩ := HC.out hae
      subst hte; subst hae; subst e1
      have HM := Lib.hid (show M.length ≤ 1099511627776 by omega)
      clear HZ HC
      rw [e2] at *
      clear e2
      go_wp2_with fail
      refine (H4.out _ _ _ HR3.out HM.out).mono ?_; rintro e w4 ⟨rfl, hb4⟩
      have HB4 := Lib.hid (HB3.out.trans (hb4.mono HB3.out.size))
      have HR4 := Lib.hid (HR3.out.below hb4)
      clear hb4 HR3
      go_wp2_with fail
      refine (H5.out _ _ _ HR4.out HM.out).mono ?_; rintro e w5 ⟨rfl, hb5⟩
      have HB5 := Lib.hid (HB4.out.trans (hb5.mono HB4.out.size))
      clear hb5 HR4
      go_wp2_with fail
      refine (HK.out _).mono ?_; rintro e w8 ⟨rfl, hb8⟩
      have HB8 := Lib.hid (HB5.out.trans (hb8.mono HB5.out.size))
      clear hb8
      go_wp2_with fail
      go_ret
      exact ⟨rfl, HB8.out⟩
    · subst hte
      go_wp2_with fail
      refine (HK.out _).mono ?_; rintro e w8 ⟨rfl, hb8⟩
      have HB8 := Lib.hid (HB3.out.trans (hb8.mono HB3.out.size))
      clear hb8
      go_wp2_with fail
      go_ret
      exact ⟨rfl, HB8.out⟩
  · go_wp2_with fail
    refine (HK.out _).mono ?_; rintro e w8 ⟨rfl, hb8⟩
    have HB8 := Lib.hid (HB3.out.trans (hb8.mono HB3.out.size))
    clear hb8
    go_wp2_with fail
    go_ret
    exact ⟨rfl, HB8.out⟩
end Go.Proofs.Ytccpjfppkahbmaa
