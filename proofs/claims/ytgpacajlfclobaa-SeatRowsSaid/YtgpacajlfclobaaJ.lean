/- The walk of IsRow. -/
import Derived.Test.YtgpacajlfclobaaI
namespace Go.Proofs.Ytgpacajlfclobaa
open Go.RowKit

def SameBut (f g : Regs) (sp : Nat) : Prop := ∀ r, r < 31 → r ≠ sp → f r = g r
open Classical in
noncomputable def isRowB (l : List (Nat × Nat)) (os : List (Int × Int)) (sp : Nat) : Bool := !(os.any badB) && decide (SameBut (runR id (toN os)) (afterR l) sp)
theorem isRow_no {l : List (Nat × Nat)} {os : List (Int × Int)} {sp : Nat} (h : ¬ SameBut (runR id (toN os)) (afterR l) sp) : isRowB l os sp = false := by
  unfold isRowB
  simp [h]
theorem isRow_yes {l : List (Nat × Nat)} {os : List (Int × Int)} {sp : Nat} (h1 : os.any badB = false) (h : SameBut (runR id (toN os)) (afterR l) sp) : isRowB l os sp = true := by
  unfold isRowB
  simp only [h1, h, decide_true, Bool.not_false, Bool.and_self]
theorem IRow.save {w w' : World} {p q : Nat} {f : Regs} (h : IRow w q f) (hs : Save p w w') (hne : q ≠ p) : IRow w' q f := by
  unfold IRow; rw [hs.block q h.lt hne]; exact h
theorem MovesIn.save {w w' : World} {p : Nat} {a : Option Addr} {l : List (Int × Int)} (h : MovesIn w a l) (hs : Save p w w') (hp : ∀ k, k < l.length → ∀ b off, a = some ⟨b, off, none⟩ → b ≠ p) : MovesIn w' a l := fun k hk => by
  obtain ⟨b, off, rfl, h1, h2⟩ := h k hk
  exact ⟨b, off, rfl, hs.cell (hp k hk b off rfl) h1, hs.cell (hp k hk b off rfl) h2⟩
theorem runR_take {os : List (Nat × Nat)} {k : Nat} (h : k < os.length) : runR id (os.take (k + 1)) = fun j => if j = (os.getD k (0, 0)).1 then runR id (os.take k) (os.getD k (0, 0)).2 else runR id (os.take k) j := by
  have e : os.getD k (0, 0) = os[k] := by rw [List.getD_eq_getElem?_getD, List.getElem?_eq_getElem h]; rfl
  rw [List.take_succ_eq_append_getElem h, runR_snoc, e]
  rfl

set_option maxRecDepth 100000 in
set_option maxHeartbeats 2000000 in
theorem isRow_any (l : List (Nat × Nat)) (a : Option Addr) (cap : Nat) (os : List (Int × Int)) (oa : Option Addr) (ocap : Nat) (sp : Nat) (w : World) (hin : PairsIn w a l) (hl : MOk l) (ho : MovesIn w oa os) (hol : os.length ≤ 100) :
    Calls Try.prog 15 #[.slice a l.length cap, .slice oa os.length ocap, .int .i64 (sp : Nat)] w fun e w' => e = .returned (.bool (isRowB l os sp)) ∧ Below w.heap.size w w' := by
  have HA := Lib.hid (after_any l a cap w hin hl.len hl.reg)
  have HN : Hid (∀ w', Calls Try.prog 29 #[.slice none 0 0] w' fun e w'' => ∃ q, e = .returned (.slice (some ⟨q, 0, none⟩) 31 31) ∧ w'.heap.size ≤ q ∧ IRow w'' q (runR id ((toN os).take 0)) ∧ Below w'.heap.size w' w'') := Lib.hid fun w' => after_any [] none 0 w' (fun _ hk => absurd hk (Nat.not_lt_zero _)) (by simp) (by simp)
  have HO := Lib.hid ho
  have HBad : Hid (∀ k, k < os.length → badB (os.getD k (0, 0)) = true → isRowB l os sp = false) := Lib.hid fun k hk h => by
    unfold isRowB
    rw [any_here (d := (0, 0)) hk h]; rfl
  have HFail : Hid (∀ r, r < 31 → r ≠ sp → runR id (toN os) r ≠ afterR l r → isRowB l os sp = false) := Lib.hid fun r h1 h2 h3 => isRow_no fun h => h3 (h r h1 h2)
  have HOk : Hid (NoneYet os badB os.length → (∀ r, r < 31 → r ≠ sp → runR id (toN os) r = afterR l r) → isRowB l os sp = true) := Lib.hid fun h1 h2 => isRow_yes h1.fin h2
  have HTk : Hid (∀ k, k < os.length → runR id ((toN os).take (k + 1)) = fun j => if j = (os.getD k (0, 0)).1.toNat then runR id ((toN os).take k) (os.getD k (0, 0)).2.toNat else runR id ((toN os).take k) j) := Lib.hid fun k hk => by
    have := runR_take (os := toN os) (k := k) (by rw [toN_len]; exact hk)
    rwa [toN_at] at this
  have HAll : Hid ((toN os).take os.length = toN os) := Lib.hid (by rw [← toN_len os, List.take_length])
  clear hin ho hl
  generalize isRowB l os sp = E at *
  generalize afterR l = want at *
  generalize toN os = on at *
  go_enter Try.func15, Try.ntmps15
  go_wp2_with fail
  refine HA.out.mono ?_; rintro e w1 ⟨q1, rfl, hq1, hr1, hb1⟩
  have HR1 := Lib.hid hr1; have HB1 := Lib.hid hb1
  clear hr1 hb1
  go_wp2_with fail
  refine (HN.out _).mono ?_; rintro e w2 ⟨q2, rfl, hq2, hr2, hb2⟩
  have HR1b := Lib.hid (HR1.out.below hb2)
  have hq12 : q1 ≠ q2 := by have := HR1.out.lt; omega
  have HR2 := Lib.hid hr2
  have hwq2 : w.heap.size ≤ q2 := by have := HB1.out.size; omega
  have HB2 := Lib.hid (HB1.out.trans (hb2.mono HB1.out.size))
  have HO2 := Lib.hid (HO.out.below HB2.out)
  have HONe : Hid (∀ k, k < os.length → ∀ b off, oa = some ⟨b, off, none⟩ → b ≠ q2) := Lib.hid fun k hk b off e => by
    obtain ⟨b', off', e', h1, _⟩ := HO.out k hk
    rw [e] at e'
    simp only [Option.some.injEq, Addr.mk.injEq, and_true] at e'
    have h3 : b' < w.heap.size := block_lt_of_cell h1
    omega
  clear hr2 hb2
  go_wp2_with fail
  go_loopw [9] (fun i wr => ∃ k : Nat, k ≤ os.length ∧ i = .int .i64 k ∧ NoneYet os badB k ∧ IRow wr q2 (runR id (on.take k)) ∧ Save q2 w2 wr) (fun i _ => os.length - (intOf i).toNat)
  case atStart => exact ⟨0, Nat.zero_le _, rfl, NoneYet.zero, HR2.out, Save.refl _ _⟩
  case round =>
    obtain ⟨k, hk, rfl, hny, hrow, hsv⟩ := hrel
    by_cases hlt : k < os.length
    · have hki : (k : Int) < (os.length : Int) := by omega
      obtain ⟨b, off, rfl, hc1, hc2⟩ := (HO2.out.save hsv HONe.out) k hlt
      have HRow := Lib.hid hrow; have HSv := Lib.hid hsv
      have HBk := Lib.hid (HBad.out k hlt); have HTKk := Lib.hid (HTk.out k hlt)
      have HNx := Lib.hid (fun h => hny.next (d := (0, 0)) hlt h)
      have HBw : Hid (Below w.heap.size w wr) := Lib.hid (HB2.out.trans (hsv.below hwq2 HB2.out.size))
      clear hny hrow hsv
      generalize os.getD k (0, 0) = m at *
      obtain ⟨x, y⟩ := m
      have hc1 : wr.cell? ⟨b, off + k * 2, none⟩ = some (.int .i64 x) := hc1
      have hc2 : wr.cell? ⟨b, off + k * 2 + 1, none⟩ = some (.int .i64 y) := hc2
      have hbx : badB (x, y) = (!(regB x) || !(regB y)) := rfl
      have HBx := Lib.hid hbx
      have H1 := Lib.hid (isRegister_any x); have H2 := Lib.hid (isRegister_any y)
      clear hbx
      cases hrx : regB x
      · rw [hrx] at H1 HBx
        have hE := HBk.out (by rw [HBx.out]; rfl)
        subst hE
        clear hrx
        go_wp2_with fail
        refine (H1.out _).mono ?_; rintro e w3 ⟨rfl, rfl⟩
        go_wp2_with fail
        go_ret
        exact ⟨rfl, HBw.out⟩
      · cases hry : regB y
        · rw [hrx] at H1 HBx
          rw [hry] at H2 HBx
          have hE := HBk.out (by rw [HBx.out]; rfl)
          subst hE
          clear hrx hry
          go_wp2_with fail
          refine (H1.out _).mono ?_; rintro e w3 ⟨rfl, rfl⟩
          go_wp2_with fail
          refine (H2.out _).mono ?_; rintro e w3 ⟨rfl, rfl⟩
          go_wp2_with fail
          go_ret
          exact ⟨rfl, HBw.out⟩
        · have hx := hrx; have hy := hry
          unfold regB at hx hy
          rw [Bool.and_eq_true, decide_eq_true_iff, decide_eq_true_iff] at hx hy
          rw [hrx] at H1 HBx
          rw [hry] at H2 HBx
          have HN1 := Lib.hid (HNx.out (by rw [HBx.out]; rfl))
          obtain ⟨x, rfl⟩ := Int.eq_ofNat_of_zero_le hx.1
          obtain ⟨y, rfl⟩ := Int.eq_ofNat_of_zero_le hy.1
          have hx31 : x < 31 := by omega
          have hy31 : y < 31 := by omega
          have hxi : (x : Int) < 31 := by omega
          have hyi : (y : Int) < 31 := by omega
          have HT1 : Hid (runR id (on.take (k + 1)) = fun j => if j = x then runR id (on.take k) y else runR id (on.take k) j) := Lib.hid (by
            have := HTKk.out
            simpa only [Int.toNat_natCast] using this)
          have f1 := HRow.out.free x
          have c1 := HRow.out.cell hx31
          have c2 := HRow.out.cell hy31
          clear hrx hry hx hy HTKk
          generalize hry' : runR id (on.take k) y = ry at *
          generalize hrx' : runR id (on.take k) x = rx at *
          clear hry' hrx'
          go_wp2_with fail
          refine (H1.out _).mono ?_; rintro e w3 ⟨rfl, rfl⟩
          go_wp2_with fail
          refine (H2.out _).mono ?_; rintro e w3 ⟨rfl, rfl⟩
          go_wp2_with fail
          go_still_tail 15, (by kernel_rfl)
          change wpList _ _ _ _ _ wr.drew
          go_wp2_with fail
          go_roundw
          case rel => exact ⟨k + 1, by omega, by go_num, HN1.out, by rw [HT1.out]; exact HRow.out.set x ry, (HSv.out.trans (Save.set q2 x wr _)).trans (Save.of_below (Below.refl _ _).drew)⟩
          case measure => simp [intOf]; omega
    · obtain rfl : k = os.length := by omega
      rw [HAll.out] at hrow
      have HNy := Lib.hid hny
      have HB3 : Hid (Below w.heap.size w wr) := Lib.hid (HB2.out.trans (hsv.below hwq2 HB2.out.size))
      have HW3 := Lib.hid (HR1b.out.save hsv hq12)
      have HN3 := Lib.hid hrow
      clear hny hrow hsv
      generalize runR id on = now at *
      go_wp2_with fail
      go_loopw [10] (fun i ws => ∃ k : Nat, k ≤ 31 ∧ i = .int .i64 k ∧ (∀ r, r < k → r ≠ sp → now r = want r) ∧ Below wr.heap.size wr ws) (fun i _ => 31 - (intOf i).toNat)
      case atStart => exact ⟨0, Nat.zero_le _, rfl, fun r hr => absurd hr (Nat.not_lt_zero _), Below.refl _ _⟩
      case round =>
        obtain ⟨k, hk, rfl, hsame, hb⟩ := hrel
        by_cases hlt : k < 31
        · have hki : (k : Int) < 31 := by omega
          have c1 := (HN3.out.below hb).cell hlt
          have c2 := (HW3.out.below hb).cell hlt
          have HB := Lib.hid hb; have HSame := Lib.hid hsame
          have HFk := Lib.hid (HFail.out k hlt)
          have HBw : Hid (Below w.heap.size w wr) := Lib.hid (HB3.out.trans (hb.mono HB3.out.size))
          clear hb hsame
          by_cases hks : k = sp
          · have HS1 : Hid (∀ r, r < k + 1 → r ≠ sp → now r = want r) := Lib.hid fun r hr hrs => HSame.out r (by omega) hrs
            subst hks
            go_wp2_with fail
            go_quiet (fail)
            go_wp2_with fail
            go_roundw
            case rel => exact ⟨k + 1, by omega, by go_num, HS1.out, HB.out.trans (below_drewN (Below.refl _ _) _)⟩
            case measure => simp [intOf]; omega
          · have hkb : ¬ (k : Int) = (sp : Int) := by omega
            have hkc : ((k : Int) != (sp : Int)) = true := by simp only [bne_iff_ne, ne_eq]; exact hkb
            have HF1 := Lib.hid (HFk.out hks)
            have HS1 : Hid (now k = want k → ∀ r, r < k + 1 → r ≠ sp → now r = want r) := Lib.hid fun h r hr hrs => by
              by_cases c : r = k
              · subst c; exact h
              · exact HSame.out r (by omega) hrs
            clear hks
            generalize now k = n1 at *
            generalize want k = n2 at *
            by_cases hn : n1 = n2
            · have HS2 := Lib.hid (HS1.out hn)
              subst hn
              go_wp2_with fail
              go_quiet (fail)
              go_wp2_with fail
              go_roundw
              case rel => exact ⟨k + 1, by omega, by go_num, HS2.out, HB.out.trans (below_drewN (Below.refl _ _) _)⟩
              case measure => simp [intOf]; omega
            · have hnb : ¬ (n1 : Int) = (n2 : Int) := by omega
              have hnc : ((n1 : Int) != (n2 : Int)) = true := by simp only [bne_iff_ne, ne_eq]; exact hnb
              have hE := HF1.out hn
              subst hE
              clear hn
              go_wp2_with fail
              go_quiet (fail)
              go_wp2_with fail
              go_ret
              exact ⟨rfl, HBw.out.trans (below_drewN (Below.refl _ _) _)⟩
        · have hki : ¬ (k : Int) < 31 := by omega
          have hE := HOk.out HNy.out (fun r hr hrs => hsame r (by omega) hrs)
          subst hE
          have HB : Hid (Below w.heap.size w wr) := Lib.hid (HB3.out.trans (hb.mono HB3.out.size))
          clear hb hsame
          go_wp2_with fail
          go_ret
          exact ⟨rfl, HB.out⟩
end Go.Proofs.Ytgpacajlfclobaa
