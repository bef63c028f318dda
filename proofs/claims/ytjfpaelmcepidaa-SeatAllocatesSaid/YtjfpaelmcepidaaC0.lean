/- Sorting keeps the elements: sortStable_any. -/
import Derived.Test.YtjfpaelmcepidaaB0
import Derived.BigRegion
import Derived.BigQuiet
import Derived.Deep.QuietTactic
import Derived.IntWalk
namespace Go.Proofs.Ytjfpaelmcepidaa.PK
open Go.RowKit

/-- An own row holds these numbers, in some order; nothing else has changed. -/
def PR (w0 : World) (B g n c : Nat) (zs0 : List Int) (wr : World) : Prop := ∃ zs : List Int, wr.ownsRow B 3 1 (.slice (some ⟨g, 0, none⟩) n c) n (encI zs) ∧ zs.Perm zs0 ∧ Save g w0 wr
theorem PR.len {w0 : World} {B g n c : Nat} {zs0 : List Int} {wr : World} (h : PR w0 B g n c zs0 wr) : zs0.length = n := by
  obtain ⟨zs, ho, hp, _⟩ := h
  have := ho.1
  rw [← hp.length_eq]
  simpa [encI] using this
theorem Save.drewN {q : Nat} {w w' : World} (h : Save q w w') (n : Nat) : Save q w (w'.drewN n) := ⟨h.os, h.tape, h.output, h.size, h.block⟩
theorem PR.drewN {w0 : World} {B g n c : Nat} {zs0 : List Int} {wr : World} (h : PR w0 B g n c zs0 wr) (m : Nat) : PR w0 B g n c zs0 (wr.drewN m) := by
  obtain ⟨zs, ho, hp, hs⟩ := h
  exact ⟨zs, owns_below ho (below_drewN (Below.refl _ _) m), hp, hs.drewN m⟩
/-- The numbers of a row, by a function. -/
structure At (w : World) (g n : Nat) (Z : Nat → Int) : Prop where
  cell : ∀ j, j < n → w.cell? ⟨g, j, none⟩ = some (.int .i64 (Z j))
  free : ∀ j, w.frozen? ⟨g, j, none⟩ = false
theorem PR.at' {w0 : World} {B g n c : Nat} {zs0 : List Int} {wr : World} (h : PR w0 B g n c zs0 wr) : ∃ Z : Nat → Int, At wr g n Z ∧ (∀ j, j < n → Z j ∈ zs0) ∧ Save g w0 wr ∧
    ∀ i j, i < n → j < n → PR w0 B g n c zs0 ((wr.setCell ⟨g, i, none⟩ (.int .i64 (Z j))).setCell ⟨g, j, none⟩ (.int .i64 (Z i))) := by
  obtain ⟨zs, ho, hp, hs⟩ := h
  have hl : zs.length = n := by have := ho.1; simpa [encI] using this
  have hg : ∀ j, j < n → zs.getD j 0 = zs.getD j 0 ∧ (encI zs)[j]? = some (.int .i64 (zs.getD j 0)) := fun j hj => ⟨rfl, by simp [encI, List.getD_eq_getElem?_getD, List.getElem?_eq_getElem (show j < zs.length by omega)]⟩
  refine ⟨fun j => zs.getD j 0, ⟨fun j hj => ?_, fun j => World.ownsRow.frozenAt ho j⟩, fun j hj => ?_, hs, fun i j hi hj => ?_⟩
  · rw [World.ownsRow.cellAt ho j (by omega)]; exact (hg j hj).2
  · show zs.getD j 0 ∈ zs0
    rw [← hp.mem_iff, List.getD_eq_getElem?_getD, List.getElem?_eq_getElem (show j < zs.length by omega)]
    exact List.getElem_mem _
  · have hi2 : i < zs.length := by omega
    have hj2 : j < zs.length := by omega
    have ei : zs.getD i 0 = zs[i] := by rw [List.getD_eq_getElem?_getD, List.getElem?_eq_getElem hi2]; rfl
    have ej : zs.getD j 0 = zs[j] := by rw [List.getD_eq_getElem?_getD, List.getElem?_eq_getElem hj2]; rfl
    have h1 := owns_set (owns_set ho i (.int .i64 (zs.getD j 0))) j (.int .i64 (zs.getD i 0))
    have e2 : ((encI zs).set i (.int .i64 (zs.getD j 0))).set j (.int .i64 (zs.getD i 0)) = encI ((zs.set i zs[j]).set j zs[i]) := by
      rw [ei, ej]; simp [encI, List.map_set]
    rw [e2] at h1
    exact ⟨_, h1, (List.set_set_perm hi2 hj2).trans hp, (hs.trans (Save.set g i wr (.int .i64 (zs.getD j 0)))).trans (Save.set g j _ (.int .i64 (zs.getD i 0)))⟩
set_option maxRecDepth 100000 in
set_option maxHeartbeats 2000000 in
theorem swapR_any (w0 : World) (B g n c : Nat) (zs0 : List Int) (a b m : Nat) (fv : Value) (w : World) (h : PR w0 B g n c zs0 w) (ha : a + m ≤ n) (hb : b + m ≤ n) (hn : n ≤ 1000) :
    Calls Try.prog 129 #[.slice (some ⟨g, 0, none⟩) n c, .int .i64 (a : Int), .int .i64 (b : Int), .int .i64 (m : Int), fv] w fun e w' => e = .returned (.tuple #[]) ∧ PR w0 B g n c zs0 w' := by
  have H := Lib.hid h
  clear h
  go_enter Try.func129, Try.ntmps129
  go_wp2_with fail
  go_loopw [10] (fun i wr => ∃ k : Nat, k ≤ m ∧ i = .int .i64 k ∧ PR w0 B g n c zs0 wr) (fun i _ => m - (intOf i).toNat)
  case atStart => exact ⟨0, Nat.zero_le _, rfl, H.out⟩
  case round =>
    obtain ⟨k, hk, rfl, hp⟩ := hrel
    have HP := Lib.hid hp
    by_cases hlt : k < m
    · obtain ⟨Z, hat, _, _, hsw⟩ := hp.at'
      have hki : (k : Int) < (m : Int) := by omega
      obtain ⟨i1, hi1⟩ : ∃ i1, a + k = i1 := ⟨_, rfl⟩
      obtain ⟨j1, hj1⟩ : ∃ j1, b + k = j1 := ⟨_, rfl⟩
      have c1 := hat.cell i1 (by omega); have c2 := hat.cell j1 (by omega)
      have f1 := hat.free i1; have f2 := hat.free j1
      have HSw := Lib.hid (hsw i1 j1 (by omega) (by omega))
      have l1 : (i1 : Int) < (n : Int) := by omega
      have l2 : (j1 : Int) < (n : Int) := by omega
      have e1 : IntKind.i64.wrap ((a : Int) + (k : Int)) = (i1 : Int) := by rw [IntWalk.i64_in _ (by omega)]; omega
      have e2 : IntKind.i64.wrap ((b : Int) + (k : Int)) = (j1 : Int) := by rw [IntWalk.i64_in _ (by omega)]; omega
      clear hp hat hsw hi1 hj1
      generalize Z i1 = x at *
      generalize Z j1 = y at *
      obtain ⟨v1, hv1⟩ := cell?_setCell_some (w := wr) (p := ⟨g, i1, none⟩) (x := .int .i64 y) (q := ⟨g, j1, none⟩) (v := .int .i64 y) c2
      go_wp2_with fail
      go_region
      all_goals
        clear e1 e2 hv1
        go_wp2_with fail
        go_roundw
        case rel => exact ⟨k + 1, by omega, by go_num, HSw.out.drewN 1⟩
        case measure => simp [intOf]; omega
    · have hki : ¬ (k : Int) < (m : Int) := by omega
      clear hp
      go_wp2_with fail
      go_end0
      exact ⟨rfl, HP.out⟩
end Go.Proofs.Ytjfpaelmcepidaa.PK
namespace Go.Proofs.Ytjfpaelmcepidaa.PK
open Go.RowKit

set_option maxRecDepth 100000 in
set_option maxHeartbeats 2000000 in
theorem rotR_any (w0 : World) (B g n c : Nat) (zs0 : List Int) (a m b : Nat) (fv : Value) (w : World) (h : PR w0 B g n c zs0 w) (ha : a < m) (hm : m < b) (hb : b ≤ n) (hn : n ≤ 1000) :
    Calls Try.prog 126 #[.slice (some ⟨g, 0, none⟩) n c, .int .i64 (a : Int), .int .i64 (m : Int), .int .i64 (b : Int), fv] w fun e w' => e = .returned (.tuple #[]) ∧ PR w0 B g n c zs0 w' := by
  have H := Lib.hid h
  have HS := Lib.hid (fun a b k u h ha hb => swapR_any w0 B g n c zs0 a b k fv u h ha hb hn)
  clear h
  obtain ⟨i0, hi0⟩ : ∃ i0 : Nat, (m : Int) - (a : Int) = (i0 : Int) := ⟨m - a, by omega⟩
  obtain ⟨j0, hj0⟩ : ∃ j0 : Nat, (b : Int) - (m : Int) = (j0 : Int) := ⟨b - m, by omega⟩
  have hi1 : 0 < i0 ∧ i0 ≤ m := by omega
  have hj1 : 0 < j0 ∧ m + j0 ≤ n := by omega
  go_enter Try.func126, Try.ntmps126
  go_wp2_with fail
  clear hi0 hj0
  go_loopw [10, 11] (fun u v wr => ∃ i j : Nat, 0 < i ∧ i ≤ m ∧ 0 < j ∧ m + j ≤ n ∧ u = .int .i64 i ∧ v = .int .i64 j ∧ PR w0 B g n c zs0 wr) (fun u v _ => (intOf u).toNat + (intOf v).toNat)
  case atStart => exact ⟨i0, j0, hi1.1, hi1.2, hj1.1, hj1.2, rfl, rfl, H.out⟩
  case round =>
    obtain ⟨i, j, h1, h2, h3, h4, rfl, rfl, hp⟩ := hrel
    have HP := Lib.hid hp
    clear hp
    obtain ⟨s, hs⟩ : ∃ s : Nat, (m : Int) - (i : Int) = (s : Int) := ⟨m - i, by omega⟩
    have HSe : Hid (s = m - i) := Lib.hid (by omega)
    by_cases hij : i = j
    · subst hij
      have g1 : ((i : Int) != (i : Int)) = false := by simp
      have HC := Lib.hid (HS.out s m i _ HP.out (by have := HSe.out; omega) (by omega))
      go_wp2_with fail
      refine HC.out.mono ?_; rintro e w2 ⟨rfl, hp2⟩
      have HP2 := Lib.hid hp2; clear hp2
      go_wp2_with fail
      go_end0
      exact ⟨rfl, HP2.out⟩
    have g1 : ((i : Int) != (j : Int)) = true := by simp; omega
    have g1b : (i != j) = true := by simp; omega
    by_cases hgt : j < i
    · have g2 : (j : Int) < (i : Int) := by omega
      obtain ⟨i2, hi2⟩ : ∃ i2 : Nat, (i : Int) - (j : Int) = (i2 : Int) := ⟨i - j, by omega⟩
      have HI2 : Hid (i2 = i - j) := Lib.hid (by omega)
      have HC := Lib.hid (HS.out s m j _ HP.out (by have := HSe.out; omega) (by omega))
      go_wp2_with fail
      refine HC.out.mono ?_; rintro e w2 ⟨rfl, hp2⟩
      have HP2 := Lib.hid hp2; clear hp2
      go_wp2_with fail
      go_roundw
      case rel => exact ⟨i2, j, by have := HI2.out; omega, by have := HI2.out; omega, h3, h4, rfl, rfl, HP2.out⟩
      case measure => simp [intOf]; have := HI2.out; omega
    · have g2 : ¬ (j : Int) < (i : Int) := by omega
      obtain ⟨j2, hj2⟩ : ∃ j2 : Nat, (j : Int) - (i : Int) = (j2 : Int) := ⟨j - i, by omega⟩
      have HJ2 : Hid (j2 = j - i) := Lib.hid (by omega)
      obtain ⟨p, hp⟩ : ∃ p : Nat, (m : Int) + (j : Int) - (i : Int) = (p : Int) := ⟨m + j - i, by omega⟩
      have HPe : Hid (p = m + j - i) := Lib.hid (by omega)
      have HC := Lib.hid (HS.out s p i _ HP.out (by have := HSe.out; omega) (by have := HPe.out; omega))
      go_wp2_with fail
      refine HC.out.mono ?_; rintro e w2 ⟨rfl, hp2⟩
      have HP2 := Lib.hid hp2; clear hp2
      go_wp2_with fail
      go_roundw
      case rel => exact ⟨i, j2, h1, h2, by have := HJ2.out; omega, by have := HJ2.out; omega, rfl, rfl, HP2.out⟩
      case measure => simp [intOf]; have := HJ2.out; omega
/-- What the comparing function does. -/
def CmpS (w0 : World) (g Bw : Nat) (zs0 : List Int) (cf : Int → Int → Int) : Prop := ∀ x ∈ zs0, ∀ y ∈ zs0, ∀ wr, Save g w0 wr →
  Calls Try.prog 52 #[.int .i64 x, .int .i64 y, .pointer (some ⟨Bw, 0, none⟩)] wr fun e w' => e = .returned (.int .i64 (cf x y)) ∧ ∃ m, w' = wr.drewN m
set_option maxRecDepth 100000 in
set_option maxHeartbeats 2000000 in
theorem insR_any (w0 : World) (B g n c Bw : Nat) (zs0 : List Int) (cf : Int → Int → Int) (a b : Nat) (w : World) (h : PR w0 B g n c zs0 w) (hcmp : CmpS w0 g Bw zs0 cf) (hb : b ≤ n) (hab : a ≤ n) (hn : n ≤ 1000) :
    Calls Try.prog 115 #[.slice (some ⟨g, 0, none⟩) n c, .int .i64 (a : Int), .int .i64 (b : Int), .func (.func 52) #[] #[.pointer (some ⟨Bw, 0, none⟩)]] w fun e w' => e = .returned (.tuple #[]) ∧ PR w0 B g n c zs0 w' := by
  have H := Lib.hid h; have HC := Lib.hid hcmp
  clear h hcmp
  go_enter Try.func115, Try.ntmps115
  go_wp2_with fail
  go_loopw [8] (fun u wr => ∃ i : Nat, 0 < i ∧ a < i ∧ (i ≤ b ∨ i = a + 1) ∧ u = .int .i64 i ∧ PR w0 B g n c zs0 wr) (fun u _ => b - (intOf u).toNat)
  case atStart => exact ⟨a + 1, by omega, by omega, .inr rfl, by go_num, H.out⟩
  case round =>
    obtain ⟨i, hi0, hia, hib, rfl, hp⟩ := hrel
    have HP := Lib.hid hp
    clear hp
    by_cases hlt : i < b
    rotate_left
    · have hli : ¬ (i : Int) < (b : Int) := by omega
      go_wp2_with fail
      go_end0
      exact ⟨rfl, HP.out⟩
    have hli : (i : Int) < (b : Int) := by omega
    go_wp2_with fail
    go_loopw [9] (fun u wr => ∃ j : Nat, a ≤ j ∧ j < b ∧ u = .int .i64 j ∧ PR w0 B g n c zs0 wr) (fun u _ => (intOf u).toNat)
    case atStart => exact ⟨i, by omega, by omega, rfl, HP.out⟩
    case round =>
      obtain ⟨j, hja, hjb, rfl, hp⟩ := hrel
      have HP2 := Lib.hid hp
      by_cases hgt : a < j
      rotate_left
      · have g1 : ¬ (a : Int) < (j : Int) := by omega
        have g2 : decide ((a : Int) < (j : Int)) = false := decide_eq_false g1
        have g3 : decide (a < j) = false := decide_eq_false hgt
        clear hp
        go_wp2_with fail
        go_quiet (fail)
        go_wp2_with fail
        go_roundw
        case rel => exact ⟨i + 1, by omega, by omega, .inl (by omega), by go_num, HP2.out.drewN nq⟩
        case measure => simp [intOf]; omega
      obtain ⟨j, rfl⟩ : ∃ j', j = j' + 1 := ⟨j - 1, by omega⟩
      obtain ⟨Z, hat, hin, hs, hsw⟩ := hp.at'
      have g1 : (a : Int) < ((j + 1 : Nat) : Int) := by omega
      have g2 : decide ((a : Int) < ((j + 1 : Nat) : Int)) = true := decide_eq_true g1
      have g3 : decide (a < j + 1) = true := decide_eq_true hgt
      have c1 := hat.cell (j + 1) (by omega); have c2 := hat.cell j (by omega)
      have f1 := hat.free (j + 1); have f2 := hat.free j
      have HCa := Lib.hid (fun k => HC.out (Z (j + 1)) (hin _ (by omega)) (Z j) (hin _ (by omega)) (wr.drewN k) (hs.drewN k))
      have l1 : ((j + 1 : Nat) : Int) < (n : Int) := by omega
      have l2 : (j : Int) < (n : Int) := by omega
      have e1 : IntKind.i64.wrap (((j + 1 : Nat) : Int) - 1) = (j : Int) := by rw [IntWalk.i64_in _ (by omega)]; omega
      have e2 : ((j + 1 : Nat) : Int) - 1 = (j : Int) := by omega
      have HJ := Lib.hid (show j + 1 = j + 1 from rfl)
      clear hp hat hsw hin hs
      generalize Z (j + 1) = x at *
      generalize Z j = y at *
      obtain ⟨q, hq⟩ : ∃ q, q = j + 1 := ⟨_, rfl⟩
      rw [← hq] at g1 g2 g3 c1 f1 l1 e1 e2 hja hjb hgt ⊢
      have HQ := Lib.hid hq
      clear hq
      go_wp2_with fail
      go_quiet ((exact Calls.quiet_of (HCa.out _)))
      have HPd := Lib.hid (HP2.out.drewN nq)
      clear c1 c2 f1 f2 HCa
      by_cases hneg : cf x y < 0
      rotate_left
      · have hd : decide (cf x y < 0) = false := decide_eq_false hneg
        generalize wr.drewN nq = wd at *
        clear e1
        go_wp2_with fail
        go_roundw
        case rel => exact ⟨i + 1, by omega, by omega, .inl (by omega), by go_num, HPd.out⟩
        case measure => simp [intOf]; omega
      have hd : decide (cf x y < 0) = true := decide_eq_true hneg
      generalize wr.drewN nq = wd at *
      obtain ⟨Z2, hat, _, _, hsw⟩ := HPd.out.at'
      have c1 := hat.cell q (by omega); have c2 := hat.cell j (by omega)
      have f1 := hat.free q; have f2 := hat.free j
      have HSw := Lib.hid (hsw q j (by omega) (by omega))
      clear hat hsw
      generalize Z2 q = x2 at *
      generalize Z2 j = y2 at *
      obtain ⟨v1, hv1⟩ := cell?_setCell_some (w := wd) (p := ⟨g, q, none⟩) (x := .int .i64 y2) (q := ⟨g, j, none⟩) (v := .int .i64 y2) c2
      go_wp2_with fail
      go_region
      all_goals
        clear e1 hv1
        go_wp2_with fail
        go_roundw
        case rel => exact ⟨j, by omega, by omega, rfl, HSw.out.drewN 1⟩
        case measure => simp [intOf]; omega
end Go.Proofs.Ytjfpaelmcepidaa.PK
namespace Go.Proofs.Ytjfpaelmcepidaa.PK
open Go.RowKit

set_option maxRecDepth 100000 in
set_option maxHeartbeats 4000000 in
theorem symR_one (w0 : World) (B g n c Bw : Nat) (zs0 : List Int) (cf : Int → Int → Int) (a b : Nat) (w : World) (h : PR w0 B g n c zs0 w) (hcmp : CmpS w0 g Bw zs0 cf) (hm : a + 1 < b) (hb : b ≤ n) (hn : n ≤ 1000) :
    Calls Try.prog 116 #[.slice (some ⟨g, 0, none⟩) n c, .int .i64 (a : Int), .int .i64 ((a + 1 : Nat) : Int), .int .i64 (b : Int), .func (.func 52) #[] #[.pointer (some ⟨Bw, 0, none⟩)]] w fun e w' => e = .returned (.tuple #[]) ∧ PR w0 B g n c zs0 w' := by
  have H := Lib.hid h; have HC := Lib.hid hcmp
  clear h hcmp
  have g0 : ((a + 1 : Nat) : Int) - (a : Int) = 1 := by omega
  have HM := Lib.hid (show ∃ m, m = a + 1 from ⟨_, rfl⟩)
  obtain ⟨m, hm2⟩ := HM.out
  rw [← hm2] at g0 hm ⊢
  have HMe := Lib.hid hm2
  have hm3 : a < m := by omega
  clear hm2 HM
  go_enter Try.func116, Try.ntmps116
  go_wp2_with fail
  go_loopw [10, 11] (fun u v wr => ∃ i j : Nat, m ≤ i ∧ i ≤ j ∧ j ≤ b ∧ u = .int .i64 i ∧ v = .int .i64 j ∧ PR w0 B g n c zs0 wr) (fun u v _ => (intOf v).toNat - (intOf u).toNat)
  case atStart => exact ⟨m, b, Nat.le_refl _, by omega, Nat.le_refl _, rfl, rfl, H.out⟩
  case round =>
    obtain ⟨i, j, h1, h2, h3, rfl, rfl, hp⟩ := hrel
    have HP := Lib.hid hp
    by_cases hlt : i < j
    · have hli : (i : Int) < (j : Int) := by omega
      obtain ⟨h, hh⟩ : ∃ h : Nat, ((i : Int) + (j : Int)) / 2 = (h : Int) := ⟨(i + j) / 2, by omega⟩
      have HHe : Hid (h = (i + j) / 2) := Lib.hid (by omega)
      have hh1 : i ≤ h ∧ h < j := by have := HHe.out; omega
      obtain ⟨Z, hat, hin, hs, _⟩ := hp.at'
      have c1 := hat.cell (h) (by omega); have c2 := hat.cell (a) (by omega)
      have HCa := Lib.hid (fun k => HC.out (Z (h)) (hin _ (by omega)) (Z (a)) (hin _ (by omega)) (wr.drewN k) (hs.drewN k))
      have l1 : ((h : Nat) : Int) < (n : Int) := by omega
      have l2 : ((a : Nat) : Int) < (n : Int) := by omega
      clear hp hat hin hs
      generalize Z (h) = x at *
      generalize Z (a) = y at *
      go_upto_region 5 with (fail)
      go_quiet ((exact Calls.quiet_of (HCa.out _)))
      have HPd := Lib.hid (HP.out.drewN nq)
      clear c1 c2 HCa
      generalize wr.drewN nq = wd at *
      generalize decide (cf x y < 0) = bq at *
      cases bq
      · go_wp2_with fail
        go_roundw
        case rel => exact ⟨i, h, by omega, by omega, by omega, rfl, rfl, HPd.out⟩
        case measure => simp [intOf]; omega
      · go_wp2_with fail
        go_roundw
        case rel => exact ⟨h + 1, j, by omega, by omega, by omega, by go_num, rfl, HPd.out⟩
        case measure => simp [intOf]; omega
    · have hli : ¬ (i : Int) < (j : Int) := by omega
      obtain ⟨e, he⟩ : ∃ e : Nat, (i : Int) - 1 = (e : Int) := ⟨i - 1, by omega⟩
      have HEe : Hid (e = i - 1 ∧ 0 < i) := Lib.hid (by omega)
      clear hp
      go_wp2_with fail
      go_loopw [13] (fun u wr => ∃ k : Nat, a ≤ k ∧ u = .int .i64 k ∧ (k ≤ e ∨ k = a) ∧ PR w0 B g n c zs0 wr) (fun u _ => e - (intOf u).toNat)
      case atStart => exact ⟨a, Nat.le_refl _, rfl, .inr rfl, HP.out⟩
      case round =>
        obtain ⟨k, h4, rfl, h5, hp⟩ := hrel
        have HP2 := Lib.hid hp
        by_cases hke : k < e
        · have hki : (k : Int) < (e : Int) := by omega
          obtain ⟨Z, hat, _, _, hsw⟩ := hp.at'
          obtain ⟨q, hq⟩ : ∃ q : Nat, (k : Int) + 1 = (q : Int) := ⟨k + 1, by omega⟩
          have HQ : Hid (q = k + 1) := Lib.hid (by omega)
          have hqn : q < n := by have := HEe.out; omega
          have c1 := hat.cell k (by omega); have c2 := hat.cell q hqn
          have f1 := hat.free k; have f2 := hat.free q
          have HSw := Lib.hid (hsw k q (by omega) hqn)
          have l1 : (k : Int) < (n : Int) := by omega
          have l2 : (q : Int) < (n : Int) := by omega
          have e1 : IntKind.i64.wrap ((k : Int) + 1) = (q : Int) := by rw [IntWalk.i64_in _ (by omega)]; omega
          clear hp hat hsw
          generalize Z k = x at *
          generalize Z q = y at *
          obtain ⟨v1, hv1⟩ := cell?_setCell_some (w := wr) (p := ⟨g, k, none⟩) (x := .int .i64 y) (q := ⟨g, q, none⟩) (v := .int .i64 y) c2
          go_wp2_with fail
          go_region
          all_goals
            clear e1 hv1
            go_wp2_with fail
            go_roundw
            case rel => exact ⟨q, by omega, rfl, .inl (by have := HQ.out; omega), HSw.out.drewN 1⟩
            case measure => simp [intOf]; have := HQ.out; omega
        · have hki : ¬ (k : Int) < (e : Int) := by omega
          clear hp
          go_wp2_with fail
          (try simp only [Exit.inBlock, Exit.then])
          refine bodyPost_ret (results_none rfl _ _ _) rfl ?_
          exact ⟨rfl, HP2.out⟩
set_option maxRecDepth 100000 in
set_option maxHeartbeats 4000000 in
theorem symR_last (w0 : World) (B g n c Bw : Nat) (zs0 : List Int) (cf : Int → Int → Int) (a m b : Nat) (w : World) (h : PR w0 B g n c zs0 w) (hcmp : CmpS w0 g Bw zs0 cf) (hne : a + 1 < m) (hmb : b = m + 1) (hb : b ≤ n) (hn : n ≤ 1000) :
    Calls Try.prog 116 #[.slice (some ⟨g, 0, none⟩) n c, .int .i64 (a : Int), .int .i64 (m : Int), .int .i64 (b : Int), .func (.func 52) #[] #[.pointer (some ⟨Bw, 0, none⟩)]] w fun e w' => e = .returned (.tuple #[]) ∧ PR w0 B g n c zs0 w' := by
  have H := Lib.hid h; have HC := Lib.hid hcmp
  clear h hcmp
  obtain ⟨z0, hz0⟩ : ∃ z0 : Nat, (m : Int) - (a : Int) = (z0 : Int) := ⟨m - a, by omega⟩
  have g0 : ((z0 : Int) == 1) = false := by rw [beq_eq_false_iff_ne]; omega
  have g0b : (z0 == 1) = false := by rw [beq_eq_false_iff_ne]; omega
  have g0c : ¬ (z0 : Int) = 1 := by omega
  have g1 : (b : Int) - (m : Int) = 1 := by omega
  have HMe := Lib.hid hmb
  have hmb2 : m < b := by omega
  clear hmb
  go_enter Try.func116, Try.ntmps116
  go_wp2_with fail
  clear hz0
  go_loopw [14, 15] (fun u v wr => ∃ i j : Nat, a ≤ i ∧ i ≤ j ∧ j ≤ m ∧ u = .int .i64 i ∧ v = .int .i64 j ∧ PR w0 B g n c zs0 wr) (fun u v _ => (intOf v).toNat - (intOf u).toNat)
  case atStart => exact ⟨a, m, Nat.le_refl _, by omega, Nat.le_refl _, rfl, rfl, H.out⟩
  case round =>
    obtain ⟨i, j, h1, h2, h3, rfl, rfl, hp⟩ := hrel
    have HP := Lib.hid hp
    by_cases hlt : i < j
    · have hli : (i : Int) < (j : Int) := by omega
      obtain ⟨h, hh⟩ : ∃ h : Nat, ((i : Int) + (j : Int)) / 2 = (h : Int) := ⟨(i + j) / 2, by omega⟩
      have HHe : Hid (h = (i + j) / 2) := Lib.hid (by omega)
      have hh1 : i ≤ h ∧ h < j := by have := HHe.out; omega
      obtain ⟨Z, hat, hin, hs, _⟩ := hp.at'
      have c1 := hat.cell (m) (by omega); have c2 := hat.cell (h) (by omega)
      have HCa := Lib.hid (fun k => HC.out (Z (m)) (hin _ (by omega)) (Z (h)) (hin _ (by omega)) (wr.drewN k) (hs.drewN k))
      have l1 : ((m : Nat) : Int) < (n : Int) := by omega
      have l2 : ((h : Nat) : Int) < (n : Int) := by omega
      clear hp hat hin hs
      generalize Z (m) = x at *
      generalize Z (h) = y at *
      go_upto_region 17 with (fail)
      go_quiet ((exact Calls.quiet_of (HCa.out _)))
      have HPd := Lib.hid (HP.out.drewN nq)
      clear c1 c2 HCa
      generalize wr.drewN nq = wd at *
      generalize decide (cf x y < 0) = bq at *
      cases bq
      · go_wp2_with fail
        go_roundw
        case rel => exact ⟨h + 1, j, by omega, by omega, by omega, by go_num, rfl, HPd.out⟩
        case measure => simp [intOf]; omega
      · go_wp2_with fail
        go_roundw
        case rel => exact ⟨i, h, by omega, by omega, by omega, rfl, rfl, HPd.out⟩
        case measure => simp [intOf]; omega
    · have hli : ¬ (i : Int) < (j : Int) := by omega
      clear hp
      go_wp2_with fail
      go_loopw [17] (fun u wr => ∃ k : Nat, k ≤ m ∧ u = .int .i64 k ∧ PR w0 B g n c zs0 wr) (fun u _ => (intOf u).toNat)
      case atStart => exact ⟨m, Nat.le_refl _, rfl, HP.out⟩
      case round =>
        obtain ⟨k, h4, rfl, hp⟩ := hrel
        have HP2 := Lib.hid hp
        by_cases hke : i < k
        · have hki : (i : Int) < (k : Int) := by omega
          obtain ⟨Z, hat, _, _, hsw⟩ := hp.at'
          obtain ⟨q, hq⟩ : ∃ q : Nat, (k : Int) - 1 = (q : Int) := ⟨k - 1, by omega⟩
          have HQ : Hid (k = q + 1) := Lib.hid (by omega)
          have hqn : q < n := by omega
          have c1 := hat.cell k (by omega); have c2 := hat.cell q hqn
          have f1 := hat.free k; have f2 := hat.free q
          have HSw := Lib.hid (hsw k q (by omega) hqn)
          have l1 : (k : Int) < (n : Int) := by omega
          have l2 : (q : Int) < (n : Int) := by omega
          have e1 : IntKind.i64.wrap ((k : Int) - 1) = (q : Int) := by rw [IntWalk.i64_in _ (by omega)]; omega
          clear hp hat hsw
          generalize Z k = x at *
          generalize Z q = y at *
          obtain ⟨v1, hv1⟩ := cell?_setCell_some (w := wr) (p := ⟨g, k, none⟩) (x := .int .i64 y) (q := ⟨g, q, none⟩) (v := .int .i64 y) c2
          go_wp2_with fail
          go_region
          all_goals
            clear e1 hv1
            go_wp2_with fail
            go_roundw
            case rel => exact ⟨q, by omega, rfl, HSw.out.drewN 1⟩
            case measure => simp [intOf]; have := HQ.out; omega
        · have hki : ¬ (i : Int) < (k : Int) := by omega
          clear hp
          go_wp2_with fail
          (try simp only [Exit.inBlock, Exit.then])
          refine bodyPost_ret (results_none rfl _ _ _) rfl ?_
          exact ⟨rfl, HP2.out⟩
set_option maxRecDepth 100000 in
set_option maxHeartbeats 4000000 in
theorem symR_gen1 (w0 : World) (B g n c Bw : Nat) (zs0 : List Int) (cf : Int → Int → Int) (a m b : Nat) (w : World) (h : PR w0 B g n c zs0 w) (hcmp : CmpS w0 g Bw zs0 cf) (hne : a + 1 < m) (hmb : m + 1 < b) (hb : b ≤ n) (hn : n ≤ 1000)
    (hih : ∀ (a' m' b' : Nat) (w : World), PR w0 B g n c zs0 w → a' < m' → m' < b' → b' ≤ n → b' - a' < b - a → Calls Try.prog 116 #[.slice (some ⟨g, 0, none⟩) n c, .int .i64 (a' : Int), .int .i64 (m' : Int), .int .i64 (b' : Int), .func (.func 52) #[] #[.pointer (some ⟨Bw, 0, none⟩)]] w fun e w' => e = .returned (.tuple #[]) ∧ PR w0 B g n c zs0 w') (hmm : (a + b) / 2 < m) :
    Calls Try.prog 116 #[.slice (some ⟨g, 0, none⟩) n c, .int .i64 (a : Int), .int .i64 (m : Int), .int .i64 (b : Int), .func (.func 52) #[] #[.pointer (some ⟨Bw, 0, none⟩)]] w fun e w' => e = .returned (.tuple #[]) ∧ PR w0 B g n c zs0 w' := by
  have H := Lib.hid h; have HC := Lib.hid hcmp; have HIH := Lib.hid hih
  clear h hcmp hih
  obtain ⟨z0, hz0⟩ : ∃ z0 : Nat, (m : Int) - (a : Int) = (z0 : Int) := ⟨m - a, by omega⟩
  have g0 : ((z0 : Int) == 1) = false := by rw [beq_eq_false_iff_ne]; omega
  have g0c : ¬ (z0 : Int) = 1 := by omega
  have g0d : ¬ z0 = 1 := by omega
  obtain ⟨z1, hz1⟩ : ∃ z1 : Nat, (b : Int) - (m : Int) = (z1 : Int) := ⟨b - m, by omega⟩
  have g1 : ((z1 : Int) == 1) = false := by rw [beq_eq_false_iff_ne]; omega
  have g1c : ¬ (z1 : Int) = 1 := by omega
  have g1d : ¬ z1 = 1 := by omega
  obtain ⟨mid, hmid⟩ : ∃ mid : Nat, ((a : Int) + (b : Int)) / 2 = (mid : Int) := ⟨(a + b) / 2, by omega⟩
  have HMid : Hid (mid = (a + b) / 2) := Lib.hid (by omega)
  obtain ⟨nn, hnn⟩ : ∃ nn : Nat, (mid : Int) + (m : Int) = (nn : Int) := ⟨mid + m, by omega⟩
  have HNn : Hid (nn = mid + m) := Lib.hid (by omega)
  have hmb2 : mid < b := by omega
  have hmm2 : mid < m := by have := HMid.out; omega
  clear hmm
  go_enter Try.func116, Try.ntmps116
  have q0 : (mid : Int) < (m : Int) := by omega
  obtain ⟨s0, hs0⟩ : ∃ s0 : Nat, (nn : Int) - (b : Int) = (s0 : Int) := ⟨nn - b, by have := HNn.out; have := HMid.out; omega⟩
  have HS0 : Hid (s0 + b = nn) := Lib.hid (by omega)
  have HR0 : Hid (s0 ≤ mid ∧ a ≤ s0) := Lib.hid (by have := HNn.out; have := HMid.out; omega)
  obtain ⟨p, hp0⟩ : ∃ p : Nat, (nn : Int) - 1 = (p : Int) := ⟨nn - 1, by have := HNn.out; omega⟩
  have HPe : Hid (p + 1 = nn) := Lib.hid (by omega)
  go_wp2_with fail
  clear hs0 hp0
  go_loopw [20, 21] (fun u v wr => ∃ i j : Nat, s0 ≤ i ∧ i ≤ j ∧ j ≤ mid ∧ u = .int .i64 i ∧ v = .int .i64 j ∧ PR w0 B g n c zs0 wr) (fun u v _ => (intOf v).toNat - (intOf u).toNat)
  case atStart => exact ⟨s0, mid, Nat.le_refl _, by have := HR0.out; omega, Nat.le_refl _, rfl, rfl, H.out⟩
  case round =>
    obtain ⟨i, j, h1, h2, h3, rfl, rfl, hp⟩ := hrel
    have HP := Lib.hid hp
    by_cases hlt : i < j
    · have hli : (i : Int) < (j : Int) := by omega
      obtain ⟨h, hh⟩ : ∃ h : Nat, ((i : Int) + (j : Int)) / 2 = (h : Int) := ⟨(i + j) / 2, by omega⟩
      have HHe : Hid (h = (i + j) / 2) := Lib.hid (by omega)
      have hh1 : i ≤ h ∧ h < j := by have := HHe.out; omega
      have hb1 : p - h < n ∧ h ≤ p ∧ h < n := by have := HPe.out; have := HS0.out; have := HNn.out; omega
      obtain ⟨Z, hat, hin, hs, _⟩ := hp.at'
      have c1 := hat.cell (p - h) (by omega); have c2 := hat.cell (h) (by omega)
      have HCa := Lib.hid (fun k => HC.out (Z (p - h)) (hin _ (by omega)) (Z (h)) (hin _ (by omega)) (wr.drewN k) (hs.drewN k))
      have l1 : ((p - h : Nat) : Int) < (n : Int) := by omega
      have l2 : ((h : Nat) : Int) < (n : Int) := by omega
      clear hp hat hin hs
      generalize Z (p - h) = x at *
      generalize Z (h) = y at *
      go_upto_region 35 with (fail)
      obtain ⟨ph, hph⟩ : ∃ ph : Nat, (p : Int) - (h : Int) = (ph : Int) := ⟨p - h, by omega⟩
      have e1 : IntKind.i64.wrap ((p : Int) - (h : Int)) = (ph : Int) := by rw [IntWalk.i64_in _ (by omega)]; omega
      have ephh : p - h = ph := by omega
      rw [ephh] at c1 l1
      clear ephh
      go_quiet ((exact Calls.quiet_of (HCa.out _)))
      have HPd := Lib.hid (HP.out.drewN nq)
      clear c1 c2 HCa e1 hph l1 l2
      generalize wr.drewN nq = wd at *
      generalize decide (cf x y < 0) = bq at *
      cases bq
      · go_wp2_with fail
        go_roundw
        case rel => exact ⟨h + 1, j, by omega, by omega, by omega, by go_num, rfl, HPd.out⟩
        case measure => simp [intOf]; omega
      · go_wp2_with fail
        go_roundw
        case rel => exact ⟨i, h, by omega, by omega, by omega, rfl, rfl, HPd.out⟩
        case measure => simp [intOf]; omega
    · have hli : ¬ (i : Int) < (j : Int) := by omega
      obtain rfl : i = j := by omega
      clear hli
      have hli : ¬ (i : Int) < (i : Int) := by omega
      obtain ⟨e, he⟩ : ∃ e : Nat, (nn : Int) - (i : Int) = (e : Int) := ⟨nn - i, by omega⟩
      have HE : Hid (e = nn - i) := Lib.hid (by omega)
      have he1 : e ≤ b := by have := HNn.out; have := HMid.out; have := HE.out; have := HS0.out; omega
      clear hp
      by_cases hs1 : i < m ∧ m < e
      · obtain ⟨t1, t2⟩ := hs1
        have q1 : (i : Int) < (m : Int) := by omega
        have q2 : (m : Int) < (e : Int) := by omega
        have HRo := Lib.hid (rotR_any w0 B g n c zs0 i m e (.func (.func 52) #[] #[.pointer (some ⟨Bw, 0, none⟩)]) wr HP.out t1 t2 (by omega) hn)
        go_wp2_with fail
        refine HRo.out.mono ?_; rintro ed w5 ⟨rfl, hp5⟩
        have HP5 := Lib.hid hp5; clear hp5
        by_cases hr1 : a < i ∧ i < mid
        · obtain ⟨t3, t4⟩ := hr1
          have q3 : (a : Int) < (i : Int) := by omega
          have q4 : (i : Int) < (mid : Int) := by omega
          have HI1 := Lib.hid (HIH.out a i mid _ HP5.out t3 t4 (by have := HMid.out; omega) (by have := HMid.out; omega))
          go_wp2_with fail
          refine HI1.out.mono ?_; rintro ed w6 ⟨rfl, hp6⟩
          have HP6 := Lib.hid hp6; clear hp6
          by_cases hr2 : mid < e ∧ e < b
          · obtain ⟨t5, t6⟩ := hr2
            have q5 : (mid : Int) < (e : Int) := by omega
            have q6 : (e : Int) < (b : Int) := by omega
            have HI2 := Lib.hid (HIH.out mid e b _ HP6.out t5 t6 (by omega) (by have := HMid.out; omega))
            go_wp2_with fail
            refine HI2.out.mono ?_; rintro ed w7 ⟨rfl, hp7⟩
            have HP7 := Lib.hid hp7; clear hp7
            (go_wp2_with fail) <;> (go_end0; exact ⟨rfl, HP7.out⟩)
          · have hr3 : ¬ (mid : Int) < (e : Int) ∨ (mid : Int) < (e : Int) ∧ ¬ (e : Int) < (b : Int) := by omega
            rcases hr3 with q5 | ⟨q5, q6⟩
            all_goals
              (go_wp2_with fail) <;> (go_end0; exact ⟨rfl, HP6.out⟩)
        · have hr4 : ¬ (a : Int) < (i : Int) ∨ (a : Int) < (i : Int) ∧ ¬ (i : Int) < (mid : Int) := by omega
          by_cases hr2 : mid < e ∧ e < b
          · obtain ⟨t5, t6⟩ := hr2
            have q5 : (mid : Int) < (e : Int) := by omega
            have q6 : (e : Int) < (b : Int) := by omega
            have HI2 := Lib.hid (HIH.out mid e b _ HP5.out t5 t6 (by omega) (by have := HMid.out; omega))
            rcases hr4 with q3 | ⟨q3, q4⟩
            all_goals
              (go_wp2_with fail) <;> (refine HI2.out.mono ?_; rintro ed w7 ⟨rfl, hp7⟩; have HP7 := Lib.hid hp7; clear hp7; ((go_wp2_with fail) <;> (go_end0; exact ⟨rfl, HP7.out⟩)))
          · have hr3 : ¬ (mid : Int) < (e : Int) ∨ (mid : Int) < (e : Int) ∧ ¬ (e : Int) < (b : Int) := by omega
            rcases hr4 with q3 | ⟨q3, q4⟩ <;> rcases hr3 with q5 | ⟨q5, q6⟩
            all_goals
              (go_wp2_with fail) <;> (go_end0; exact ⟨rfl, HP5.out⟩)
      · have hs2 : ¬ (i : Int) < (m : Int) ∨ (i : Int) < (m : Int) ∧ ¬ (m : Int) < (e : Int) := by omega
        have HP5 := HP
        rcases hs2 with q1 | ⟨q1, q2⟩
        · skip
          by_cases hr1 : a < i ∧ i < mid
          · obtain ⟨t3, t4⟩ := hr1
            have q3 : (a : Int) < (i : Int) := by omega
            have q4 : (i : Int) < (mid : Int) := by omega
            have HI1 := Lib.hid (HIH.out a i mid _ HP5.out t3 t4 (by have := HMid.out; omega) (by have := HMid.out; omega))
            go_wp2_with fail
            refine HI1.out.mono ?_; rintro ed w6 ⟨rfl, hp6⟩
            have HP6 := Lib.hid hp6; clear hp6
            by_cases hr2 : mid < e ∧ e < b
            · obtain ⟨t5, t6⟩ := hr2
              have q5 : (mid : Int) < (e : Int) := by omega
              have q6 : (e : Int) < (b : Int) := by omega
              have HI2 := Lib.hid (HIH.out mid e b _ HP6.out t5 t6 (by omega) (by have := HMid.out; omega))
              go_wp2_with fail
              refine HI2.out.mono ?_; rintro ed w7 ⟨rfl, hp7⟩
              have HP7 := Lib.hid hp7; clear hp7
              (go_wp2_with fail) <;> (go_end0; exact ⟨rfl, HP7.out⟩)
            · have hr3 : ¬ (mid : Int) < (e : Int) ∨ (mid : Int) < (e : Int) ∧ ¬ (e : Int) < (b : Int) := by omega
              rcases hr3 with q5 | ⟨q5, q6⟩
              all_goals
                (go_wp2_with fail) <;> (go_end0; exact ⟨rfl, HP6.out⟩)
          · have hr4 : ¬ (a : Int) < (i : Int) ∨ (a : Int) < (i : Int) ∧ ¬ (i : Int) < (mid : Int) := by omega
            by_cases hr2 : mid < e ∧ e < b
            · obtain ⟨t5, t6⟩ := hr2
              have q5 : (mid : Int) < (e : Int) := by omega
              have q6 : (e : Int) < (b : Int) := by omega
              have HI2 := Lib.hid (HIH.out mid e b _ HP5.out t5 t6 (by omega) (by have := HMid.out; omega))
              rcases hr4 with q3 | ⟨q3, q4⟩
              all_goals
                (go_wp2_with fail) <;> (refine HI2.out.mono ?_; rintro ed w7 ⟨rfl, hp7⟩; have HP7 := Lib.hid hp7; clear hp7; ((go_wp2_with fail) <;> (go_end0; exact ⟨rfl, HP7.out⟩)))
            · have hr3 : ¬ (mid : Int) < (e : Int) ∨ (mid : Int) < (e : Int) ∧ ¬ (e : Int) < (b : Int) := by omega
              rcases hr4 with q3 | ⟨q3, q4⟩ <;> rcases hr3 with q5 | ⟨q5, q6⟩
              all_goals
                (go_wp2_with fail) <;> (go_end0; exact ⟨rfl, HP5.out⟩)
        · skip
          by_cases hr1 : a < i ∧ i < mid
          · obtain ⟨t3, t4⟩ := hr1
            have q3 : (a : Int) < (i : Int) := by omega
            have q4 : (i : Int) < (mid : Int) := by omega
            have HI1 := Lib.hid (HIH.out a i mid _ HP5.out t3 t4 (by have := HMid.out; omega) (by have := HMid.out; omega))
            go_wp2_with fail
            refine HI1.out.mono ?_; rintro ed w6 ⟨rfl, hp6⟩
            have HP6 := Lib.hid hp6; clear hp6
            by_cases hr2 : mid < e ∧ e < b
            · obtain ⟨t5, t6⟩ := hr2
              have q5 : (mid : Int) < (e : Int) := by omega
              have q6 : (e : Int) < (b : Int) := by omega
              have HI2 := Lib.hid (HIH.out mid e b _ HP6.out t5 t6 (by omega) (by have := HMid.out; omega))
              go_wp2_with fail
              refine HI2.out.mono ?_; rintro ed w7 ⟨rfl, hp7⟩
              have HP7 := Lib.hid hp7; clear hp7
              (go_wp2_with fail) <;> (go_end0; exact ⟨rfl, HP7.out⟩)
            · have hr3 : ¬ (mid : Int) < (e : Int) ∨ (mid : Int) < (e : Int) ∧ ¬ (e : Int) < (b : Int) := by omega
              rcases hr3 with q5 | ⟨q5, q6⟩
              all_goals
                (go_wp2_with fail) <;> (go_end0; exact ⟨rfl, HP6.out⟩)
          · have hr4 : ¬ (a : Int) < (i : Int) ∨ (a : Int) < (i : Int) ∧ ¬ (i : Int) < (mid : Int) := by omega
            by_cases hr2 : mid < e ∧ e < b
            · obtain ⟨t5, t6⟩ := hr2
              have q5 : (mid : Int) < (e : Int) := by omega
              have q6 : (e : Int) < (b : Int) := by omega
              have HI2 := Lib.hid (HIH.out mid e b _ HP5.out t5 t6 (by omega) (by have := HMid.out; omega))
              rcases hr4 with q3 | ⟨q3, q4⟩
              all_goals
                (go_wp2_with fail) <;> (refine HI2.out.mono ?_; rintro ed w7 ⟨rfl, hp7⟩; have HP7 := Lib.hid hp7; clear hp7; ((go_wp2_with fail) <;> (go_end0; exact ⟨rfl, HP7.out⟩)))
            · have hr3 : ¬ (mid : Int) < (e : Int) ∨ (mid : Int) < (e : Int) ∧ ¬ (e : Int) < (b : Int) := by omega
              rcases hr4 with q3 | ⟨q3, q4⟩ <;> rcases hr3 with q5 | ⟨q5, q6⟩
              all_goals
                (go_wp2_with fail) <;> (go_end0; exact ⟨rfl, HP5.out⟩)
set_option maxRecDepth 100000 in
set_option maxHeartbeats 4000000 in
theorem symR_gen2 (w0 : World) (B g n c Bw : Nat) (zs0 : List Int) (cf : Int → Int → Int) (a m b : Nat) (w : World) (h : PR w0 B g n c zs0 w) (hcmp : CmpS w0 g Bw zs0 cf) (hne : a + 1 < m) (hmb : m + 1 < b) (hb : b ≤ n) (hn : n ≤ 1000)
    (hih : ∀ (a' m' b' : Nat) (w : World), PR w0 B g n c zs0 w → a' < m' → m' < b' → b' ≤ n → b' - a' < b - a → Calls Try.prog 116 #[.slice (some ⟨g, 0, none⟩) n c, .int .i64 (a' : Int), .int .i64 (m' : Int), .int .i64 (b' : Int), .func (.func 52) #[] #[.pointer (some ⟨Bw, 0, none⟩)]] w fun e w' => e = .returned (.tuple #[]) ∧ PR w0 B g n c zs0 w') (hmm : ¬ (a + b) / 2 < m) :
    Calls Try.prog 116 #[.slice (some ⟨g, 0, none⟩) n c, .int .i64 (a : Int), .int .i64 (m : Int), .int .i64 (b : Int), .func (.func 52) #[] #[.pointer (some ⟨Bw, 0, none⟩)]] w fun e w' => e = .returned (.tuple #[]) ∧ PR w0 B g n c zs0 w' := by
  have H := Lib.hid h; have HC := Lib.hid hcmp; have HIH := Lib.hid hih
  clear h hcmp hih
  obtain ⟨z0, hz0⟩ : ∃ z0 : Nat, (m : Int) - (a : Int) = (z0 : Int) := ⟨m - a, by omega⟩
  have g0 : ((z0 : Int) == 1) = false := by rw [beq_eq_false_iff_ne]; omega
  have g0c : ¬ (z0 : Int) = 1 := by omega
  have g0d : ¬ z0 = 1 := by omega
  obtain ⟨z1, hz1⟩ : ∃ z1 : Nat, (b : Int) - (m : Int) = (z1 : Int) := ⟨b - m, by omega⟩
  have g1 : ((z1 : Int) == 1) = false := by rw [beq_eq_false_iff_ne]; omega
  have g1c : ¬ (z1 : Int) = 1 := by omega
  have g1d : ¬ z1 = 1 := by omega
  obtain ⟨mid, hmid⟩ : ∃ mid : Nat, ((a : Int) + (b : Int)) / 2 = (mid : Int) := ⟨(a + b) / 2, by omega⟩
  have HMid : Hid (mid = (a + b) / 2) := Lib.hid (by omega)
  obtain ⟨nn, hnn⟩ : ∃ nn : Nat, (mid : Int) + (m : Int) = (nn : Int) := ⟨mid + m, by omega⟩
  have HNn : Hid (nn = mid + m) := Lib.hid (by omega)
  have hmb2 : mid < b := by omega
  have hmm2 : m ≤ mid := by have := HMid.out; omega
  clear hmm
  go_enter Try.func116, Try.ntmps116
  have q0 : ¬ (mid : Int) < (m : Int) := by omega
  obtain ⟨p, hp0⟩ : ∃ p : Nat, (nn : Int) - 1 = (p : Int) := ⟨nn - 1, by have := HNn.out; omega⟩
  have HPe : Hid (p + 1 = nn) := Lib.hid (by omega)
  go_wp2_with fail
  clear hp0
  go_loopw [20, 21] (fun u v wr => ∃ i j : Nat, a ≤ i ∧ i ≤ j ∧ j ≤ m ∧ u = .int .i64 i ∧ v = .int .i64 j ∧ PR w0 B g n c zs0 wr) (fun u v _ => (intOf v).toNat - (intOf u).toNat)
  case atStart => exact ⟨a, m, Nat.le_refl _, by omega, Nat.le_refl _, rfl, rfl, H.out⟩
  case round =>
    obtain ⟨i, j, h1, h2, h3, rfl, rfl, hp⟩ := hrel
    have HP := Lib.hid hp
    by_cases hlt : i < j
    · have hli : (i : Int) < (j : Int) := by omega
      obtain ⟨h, hh⟩ : ∃ h : Nat, ((i : Int) + (j : Int)) / 2 = (h : Int) := ⟨(i + j) / 2, by omega⟩
      have HHe : Hid (h = (i + j) / 2) := Lib.hid (by omega)
      have hh1 : i ≤ h ∧ h < j := by have := HHe.out; omega
      have hb1 : p - h < n ∧ h ≤ p ∧ h < n := by have := HPe.out; have := HNn.out; have := HMid.out; omega
      obtain ⟨Z, hat, hin, hs, _⟩ := hp.at'
      have c1 := hat.cell (p - h) (by omega); have c2 := hat.cell (h) (by omega)
      have HCa := Lib.hid (fun k => HC.out (Z (p - h)) (hin _ (by omega)) (Z (h)) (hin _ (by omega)) (wr.drewN k) (hs.drewN k))
      have l1 : ((p - h : Nat) : Int) < (n : Int) := by omega
      have l2 : ((h : Nat) : Int) < (n : Int) := by omega
      clear hp hat hin hs
      generalize Z (p - h) = x at *
      generalize Z (h) = y at *
      go_upto_region 35 with (fail)
      obtain ⟨ph, hph⟩ : ∃ ph : Nat, (p : Int) - (h : Int) = (ph : Int) := ⟨p - h, by omega⟩
      have e1 : IntKind.i64.wrap ((p : Int) - (h : Int)) = (ph : Int) := by rw [IntWalk.i64_in _ (by omega)]; omega
      have ephh : p - h = ph := by omega
      rw [ephh] at c1 l1
      clear ephh
      go_quiet ((exact Calls.quiet_of (HCa.out _)))
      have HPd := Lib.hid (HP.out.drewN nq)
      clear c1 c2 HCa e1 hph l1 l2
      generalize wr.drewN nq = wd at *
      generalize decide (cf x y < 0) = bq at *
      cases bq
      · go_wp2_with fail
        go_roundw
        case rel => exact ⟨h + 1, j, by omega, by omega, by omega, by go_num, rfl, HPd.out⟩
        case measure => simp [intOf]; omega
      · go_wp2_with fail
        go_roundw
        case rel => exact ⟨i, h, by omega, by omega, by omega, rfl, rfl, HPd.out⟩
        case measure => simp [intOf]; omega
    · have hli : ¬ (i : Int) < (j : Int) := by omega
      obtain rfl : i = j := by omega
      clear hli
      have hli : ¬ (i : Int) < (i : Int) := by omega
      obtain ⟨e, he⟩ : ∃ e : Nat, (nn : Int) - (i : Int) = (e : Int) := ⟨nn - i, by omega⟩
      have HE : Hid (e = nn - i) := Lib.hid (by omega)
      have he1 : e ≤ b := by have := HNn.out; have := HMid.out; have := HE.out; omega
      clear hp
      by_cases hs1 : i < m ∧ m < e
      · obtain ⟨t1, t2⟩ := hs1
        have q1 : (i : Int) < (m : Int) := by omega
        have q2 : (m : Int) < (e : Int) := by omega
        have HRo := Lib.hid (rotR_any w0 B g n c zs0 i m e (.func (.func 52) #[] #[.pointer (some ⟨Bw, 0, none⟩)]) wr HP.out t1 t2 (by omega) hn)
        go_wp2_with fail
        refine HRo.out.mono ?_; rintro ed w5 ⟨rfl, hp5⟩
        have HP5 := Lib.hid hp5; clear hp5
        by_cases hr1 : a < i ∧ i < mid
        · obtain ⟨t3, t4⟩ := hr1
          have q3 : (a : Int) < (i : Int) := by omega
          have q4 : (i : Int) < (mid : Int) := by omega
          have HI1 := Lib.hid (HIH.out a i mid _ HP5.out t3 t4 (by have := HMid.out; omega) (by have := HMid.out; omega))
          go_wp2_with fail
          refine HI1.out.mono ?_; rintro ed w6 ⟨rfl, hp6⟩
          have HP6 := Lib.hid hp6; clear hp6
          by_cases hr2 : mid < e ∧ e < b
          · obtain ⟨t5, t6⟩ := hr2
            have q5 : (mid : Int) < (e : Int) := by omega
            have q6 : (e : Int) < (b : Int) := by omega
            have HI2 := Lib.hid (HIH.out mid e b _ HP6.out t5 t6 (by omega) (by have := HMid.out; omega))
            go_wp2_with fail
            refine HI2.out.mono ?_; rintro ed w7 ⟨rfl, hp7⟩
            have HP7 := Lib.hid hp7; clear hp7
            (go_wp2_with fail) <;> (go_end0; exact ⟨rfl, HP7.out⟩)
          · have hr3 : ¬ (mid : Int) < (e : Int) ∨ (mid : Int) < (e : Int) ∧ ¬ (e : Int) < (b : Int) := by omega
            rcases hr3 with q5 | ⟨q5, q6⟩
            all_goals
              (go_wp2_with fail) <;> (go_end0; exact ⟨rfl, HP6.out⟩)
        · have hr4 : ¬ (a : Int) < (i : Int) ∨ (a : Int) < (i : Int) ∧ ¬ (i : Int) < (mid : Int) := by omega
          by_cases hr2 : mid < e ∧ e < b
          · obtain ⟨t5, t6⟩ := hr2
            have q5 : (mid : Int) < (e : Int) := by omega
            have q6 : (e : Int) < (b : Int) := by omega
            have HI2 := Lib.hid (HIH.out mid e b _ HP5.out t5 t6 (by omega) (by have := HMid.out; omega))
            rcases hr4 with q3 | ⟨q3, q4⟩
            all_goals
              (go_wp2_with fail) <;> (refine HI2.out.mono ?_; rintro ed w7 ⟨rfl, hp7⟩; have HP7 := Lib.hid hp7; clear hp7; ((go_wp2_with fail) <;> (go_end0; exact ⟨rfl, HP7.out⟩)))
          · have hr3 : ¬ (mid : Int) < (e : Int) ∨ (mid : Int) < (e : Int) ∧ ¬ (e : Int) < (b : Int) := by omega
            rcases hr4 with q3 | ⟨q3, q4⟩ <;> rcases hr3 with q5 | ⟨q5, q6⟩
            all_goals
              (go_wp2_with fail) <;> (go_end0; exact ⟨rfl, HP5.out⟩)
      · have hs2 : ¬ (i : Int) < (m : Int) ∨ (i : Int) < (m : Int) ∧ ¬ (m : Int) < (e : Int) := by omega
        have HP5 := HP
        rcases hs2 with q1 | ⟨q1, q2⟩
        · skip
          by_cases hr1 : a < i ∧ i < mid
          · obtain ⟨t3, t4⟩ := hr1
            have q3 : (a : Int) < (i : Int) := by omega
            have q4 : (i : Int) < (mid : Int) := by omega
            have HI1 := Lib.hid (HIH.out a i mid _ HP5.out t3 t4 (by have := HMid.out; omega) (by have := HMid.out; omega))
            go_wp2_with fail
            refine HI1.out.mono ?_; rintro ed w6 ⟨rfl, hp6⟩
            have HP6 := Lib.hid hp6; clear hp6
            by_cases hr2 : mid < e ∧ e < b
            · obtain ⟨t5, t6⟩ := hr2
              have q5 : (mid : Int) < (e : Int) := by omega
              have q6 : (e : Int) < (b : Int) := by omega
              have HI2 := Lib.hid (HIH.out mid e b _ HP6.out t5 t6 (by omega) (by have := HMid.out; omega))
              go_wp2_with fail
              refine HI2.out.mono ?_; rintro ed w7 ⟨rfl, hp7⟩
              have HP7 := Lib.hid hp7; clear hp7
              (go_wp2_with fail) <;> (go_end0; exact ⟨rfl, HP7.out⟩)
            · have hr3 : ¬ (mid : Int) < (e : Int) ∨ (mid : Int) < (e : Int) ∧ ¬ (e : Int) < (b : Int) := by omega
              rcases hr3 with q5 | ⟨q5, q6⟩
              all_goals
                (go_wp2_with fail) <;> (go_end0; exact ⟨rfl, HP6.out⟩)
          · have hr4 : ¬ (a : Int) < (i : Int) ∨ (a : Int) < (i : Int) ∧ ¬ (i : Int) < (mid : Int) := by omega
            by_cases hr2 : mid < e ∧ e < b
            · obtain ⟨t5, t6⟩ := hr2
              have q5 : (mid : Int) < (e : Int) := by omega
              have q6 : (e : Int) < (b : Int) := by omega
              have HI2 := Lib.hid (HIH.out mid e b _ HP5.out t5 t6 (by omega) (by have := HMid.out; omega))
              rcases hr4 with q3 | ⟨q3, q4⟩
              all_goals
                (go_wp2_with fail) <;> (refine HI2.out.mono ?_; rintro ed w7 ⟨rfl, hp7⟩; have HP7 := Lib.hid hp7; clear hp7; ((go_wp2_with fail) <;> (go_end0; exact ⟨rfl, HP7.out⟩)))
            · have hr3 : ¬ (mid : Int) < (e : Int) ∨ (mid : Int) < (e : Int) ∧ ¬ (e : Int) < (b : Int) := by omega
              rcases hr4 with q3 | ⟨q3, q4⟩ <;> rcases hr3 with q5 | ⟨q5, q6⟩
              all_goals
                (go_wp2_with fail) <;> (go_end0; exact ⟨rfl, HP5.out⟩)
        · skip
          by_cases hr1 : a < i ∧ i < mid
          · obtain ⟨t3, t4⟩ := hr1
            have q3 : (a : Int) < (i : Int) := by omega
            have q4 : (i : Int) < (mid : Int) := by omega
            have HI1 := Lib.hid (HIH.out a i mid _ HP5.out t3 t4 (by have := HMid.out; omega) (by have := HMid.out; omega))
            go_wp2_with fail
            refine HI1.out.mono ?_; rintro ed w6 ⟨rfl, hp6⟩
            have HP6 := Lib.hid hp6; clear hp6
            by_cases hr2 : mid < e ∧ e < b
            · obtain ⟨t5, t6⟩ := hr2
              have q5 : (mid : Int) < (e : Int) := by omega
              have q6 : (e : Int) < (b : Int) := by omega
              have HI2 := Lib.hid (HIH.out mid e b _ HP6.out t5 t6 (by omega) (by have := HMid.out; omega))
              go_wp2_with fail
              refine HI2.out.mono ?_; rintro ed w7 ⟨rfl, hp7⟩
              have HP7 := Lib.hid hp7; clear hp7
              (go_wp2_with fail) <;> (go_end0; exact ⟨rfl, HP7.out⟩)
            · have hr3 : ¬ (mid : Int) < (e : Int) ∨ (mid : Int) < (e : Int) ∧ ¬ (e : Int) < (b : Int) := by omega
              rcases hr3 with q5 | ⟨q5, q6⟩
              all_goals
                (go_wp2_with fail) <;> (go_end0; exact ⟨rfl, HP6.out⟩)
          · have hr4 : ¬ (a : Int) < (i : Int) ∨ (a : Int) < (i : Int) ∧ ¬ (i : Int) < (mid : Int) := by omega
            by_cases hr2 : mid < e ∧ e < b
            · obtain ⟨t5, t6⟩ := hr2
              have q5 : (mid : Int) < (e : Int) := by omega
              have q6 : (e : Int) < (b : Int) := by omega
              have HI2 := Lib.hid (HIH.out mid e b _ HP5.out t5 t6 (by omega) (by have := HMid.out; omega))
              rcases hr4 with q3 | ⟨q3, q4⟩
              all_goals
                (go_wp2_with fail) <;> (refine HI2.out.mono ?_; rintro ed w7 ⟨rfl, hp7⟩; have HP7 := Lib.hid hp7; clear hp7; ((go_wp2_with fail) <;> (go_end0; exact ⟨rfl, HP7.out⟩)))
            · have hr3 : ¬ (mid : Int) < (e : Int) ∨ (mid : Int) < (e : Int) ∧ ¬ (e : Int) < (b : Int) := by omega
              rcases hr4 with q3 | ⟨q3, q4⟩ <;> rcases hr3 with q5 | ⟨q5, q6⟩
              all_goals
                (go_wp2_with fail) <;> (go_end0; exact ⟨rfl, HP5.out⟩)
theorem symR_any (w0 : World) (B g n c Bw : Nat) (zs0 : List Int) (cf : Int → Int → Int) (hcmp : CmpS w0 g Bw zs0 cf) (hn : n ≤ 1000) : ∀ (d a m b : Nat) (w : World), b - a ≤ d → PR w0 B g n c zs0 w → a < m → m < b → b ≤ n →
    Calls Try.prog 116 #[.slice (some ⟨g, 0, none⟩) n c, .int .i64 (a : Int), .int .i64 (m : Int), .int .i64 (b : Int), .func (.func 52) #[] #[.pointer (some ⟨Bw, 0, none⟩)]] w fun e w' => e = .returned (.tuple #[]) ∧ PR w0 B g n c zs0 w' := by
  intro d
  induction d with
  | zero => intro a m b w hd _ h1 h2 _; omega
  | succ d ih =>
    intro a m b w hd h h1 h2 h3
    by_cases hm : m = a + 1
    · subst hm
      exact symR_one w0 B g n c Bw zs0 cf a b w h hcmp h2 h3 hn
    · by_cases hb : b = m + 1
      · exact symR_last w0 B g n c Bw zs0 cf a m b w h hcmp (by omega) hb h3 hn
      · by_cases hmm : (a + b) / 2 < m
        · exact symR_gen1 w0 B g n c Bw zs0 cf a m b w h hcmp (by omega) (by omega) h3 hn (fun a' m' b' w' h' h1' h2' h3' h4' => ih a' m' b' w' (by omega) h' h1' h2' h3') hmm
        · exact symR_gen2 w0 B g n c Bw zs0 cf a m b w h hcmp (by omega) (by omega) h3 hn (fun a' m' b' w' h' h1' h2' h3' h4' => ih a' m' b' w' (by omega) h' h1' h2' h3') hmm
end Go.Proofs.Ytjfpaelmcepidaa.PK
namespace Go.Proofs.Ytjfpaelmcepidaa.PK
open Go.RowKit

set_option maxRecDepth 100000 in
set_option maxHeartbeats 4000000 in
theorem stableR_any (w0 : World) (B g n c Bw : Nat) (zs0 : List Int) (cf : Int → Int → Int) (w : World) (h : PR w0 B g n c zs0 w) (hcmp : CmpS w0 g Bw zs0 cf) (hn : n ≤ 1000) :
    Calls Try.prog 88 #[.slice (some ⟨g, 0, none⟩) n c, .int .i64 (n : Int), .func (.func 52) #[] #[.pointer (some ⟨Bw, 0, none⟩)]] w fun e w' => e = .returned (.tuple #[]) ∧ PR w0 B g n c zs0 w' := by
  have H := Lib.hid h
  have HIn := Lib.hid (fun a b u h hb ha => insR_any w0 B g n c Bw zs0 cf a b u h hcmp hb ha hn)
  have HSy := Lib.hid (fun a m b u h => symR_any w0 B g n c Bw zs0 cf hcmp hn (b - a) a m b u (Nat.le_refl _) h)
  clear h hcmp
  go_enter Try.func88, Try.ntmps88
  go_wp2_with fail
  go_loopw [7, 8] (fun u v wr => ∃ a b : Nat, a ≤ n ∧ b = a + 20 ∧ u = .int .i64 a ∧ v = .int .i64 b ∧ PR w0 B g n c zs0 wr) (fun _ v _ => n + 20 - (intOf v).toNat)
  case atStart => exact ⟨0, 20, Nat.zero_le _, rfl, rfl, rfl, H.out⟩
  case round =>
    obtain ⟨a, b, ha, hb, rfl, rfl, hp⟩ := hrel
    have HP := Lib.hid hp
    have HBe := Lib.hid hb
    clear hp
    by_cases hlt : b ≤ n
    · have hli : (b : Int) ≤ (n : Int) := by omega
      have HC := Lib.hid (HIn.out a b _ HP.out hlt ha)
      obtain ⟨b2, hb2⟩ : ∃ b2 : Nat, (b : Int) + 20 = (b2 : Int) := ⟨b + 20, by omega⟩
      have HB2 : Hid (b2 = b + 20) := Lib.hid (by omega)
      clear hb
      go_wp2_with fail
      refine HC.out.mono ?_; rintro e w2 ⟨rfl, hp2⟩
      have HP2 := Lib.hid hp2; clear hp2
      go_wp2_with fail
      go_roundw
      case rel => exact ⟨b, b2, hlt, HB2.out, rfl, rfl, HP2.out⟩
      case measure => simp [intOf]; have := HB2.out; omega
    · have hli : ¬ (b : Int) ≤ (n : Int) := by omega
      have HC := Lib.hid (HIn.out a n _ HP.out (Nat.le_refl _) ha)
      clear hb
      go_wp2_with fail
      refine HC.out.mono ?_; rintro e w2 ⟨rfl, hp2⟩
      have HP2 := Lib.hid hp2; clear hp2
      go_wp2_with fail
      go_loopw [6, 7, 8, 9] (fun t _ _ _ wr => ∃ s : Nat, 0 < s ∧ s ≤ 2000 ∧ t = .int .i64 s ∧ PR w0 B g n c zs0 wr) (fun t _ _ _ _ => n - (intOf t).toNat)
      case atStart => exact ⟨20, by omega, by omega, rfl, HP2.out⟩
      case round =>
        obtain ⟨s, hs0, hs1, rfl, hp⟩ := hrel
        have HP3 := Lib.hid hp
        clear hp
        by_cases hsn : s < n
        rotate_left
        · have hsi : ¬ (s : Int) < (n : Int) := by omega
          go_wp2_with fail
          go_end0
          exact ⟨rfl, HP3.out⟩
        have hsi : (s : Int) < (n : Int) := by omega
        obtain ⟨s2, hs2⟩ : ∃ s2 : Nat, 2 * (s : Int) = (s2 : Int) := ⟨2 * s, by omega⟩
        have hs3 : (s : Int) * 2 = (s2 : Int) := by omega
        have HS2 : Hid (s2 = 2 * s) := Lib.hid (by omega)
        have hs4 : s2 ≤ 2000 := by omega
        go_wp2_with fail
        go_loopw [7, 8] (fun u v wr => ∃ a b : Nat, a ≤ n ∧ b = a + s2 ∧ u = .int .i64 a ∧ v = .int .i64 b ∧ PR w0 B g n c zs0 wr) (fun _ v _ => n + s2 - (intOf v).toNat)
        case atStart => exact ⟨0, s2, Nat.zero_le _, (Nat.zero_add _).symm, rfl, rfl, HP3.out⟩
        case round =>
          obtain ⟨a, b, ha, hb, rfl, rfl, hp⟩ := hrel
          have HP4 := Lib.hid hp
          have HBe := Lib.hid hb
          obtain ⟨m, hm⟩ : ∃ m : Nat, (a : Int) + (s : Int) = (m : Int) := ⟨a + s, by omega⟩
          have HMe : Hid (m = a + s) := Lib.hid (by omega)
          clear hp
          by_cases hbn : b ≤ n
          · have hbi : (b : Int) ≤ (n : Int) := by omega
            have HC := Lib.hid (HSy.out a m b _ HP4.out (by have := HMe.out; omega) (by have := HMe.out; have := HS2.out; omega) hbn)
            obtain ⟨b2, hb2⟩ : ∃ b2 : Nat, (b : Int) + (s2 : Int) = (b2 : Int) := ⟨b + s2, by omega⟩
            have HB2 : Hid (b2 = b + s2) := Lib.hid (by omega)
            clear hb
            go_wp2_with fail
            refine HC.out.mono ?_; rintro e w2 ⟨rfl, hp2⟩
            have HP5 := Lib.hid hp2; clear hp2
            go_wp2_with fail
            go_roundw
            case rel => exact ⟨b, b2, hbn, HB2.out, rfl, rfl, HP5.out⟩
            case measure => simp [intOf]; have := HB2.out; have := HS2.out; omega
          · have hbi : ¬ (b : Int) ≤ (n : Int) := by omega
            clear hb
            by_cases hmn : m < n
            · have hmi : (m : Int) < (n : Int) := by omega
              have HC := Lib.hid (HSy.out a m n _ HP4.out (by have := HMe.out; omega) hmn (Nat.le_refl _))
              go_wp2_with fail
              refine HC.out.mono ?_; rintro e w2 ⟨rfl, hp2⟩
              have HP5 := Lib.hid hp2; clear hp2
              go_wp2_with fail
              go_roundw
              case rel => exact ⟨s2, by omega, hs4, rfl, HP5.out⟩
              case measure => simp [intOf]; omega
            · have hmi : ¬ (m : Int) < (n : Int) := by omega
              go_wp2_with fail
              go_roundw
              case rel => exact ⟨s2, by omega, hs4, rfl, HP4.out⟩
              case measure => simp [intOf]; omega
theorem insR_nil (fv : Value) (w : World) : Calls Try.prog 115 #[.slice none 0 0, .int .i64 0, .int .i64 0, fv] w fun e w' => e = .returned (.tuple #[]) ∧ w = w' := by
  go_enter Try.func115, Try.ntmps115
  go_wp2_with fail
  go_loopw [8] (fun u wr => u = .int .i64 1 ∧ w = wr) (fun _ _ => 0)
  case atStart => exact ⟨rfl, rfl⟩
  case round =>
    obtain ⟨rfl, rfl⟩ := hrel
    go_wp2_with fail
    go_end0
    exact ⟨rfl, rfl⟩
set_option maxRecDepth 100000 in
set_option maxHeartbeats 1000000 in
theorem stableR_nil (fv : Value) (w : World) : Calls Try.prog 88 #[.slice none 0 0, .int .i64 0, fv] w fun e w' => e = .returned (.tuple #[]) ∧ w = w' := by
  have HN := Lib.hid (insR_nil fv)
  go_enter Try.func88, Try.ntmps88
  go_wp2_with fail
  go_loopw [7, 8] (fun u v wr => u = .int .i64 0 ∧ v = .int .i64 20 ∧ w = wr) (fun _ _ _ => 0)
  case atStart => exact ⟨rfl, rfl, rfl⟩
  case round =>
    obtain ⟨rfl, rfl, rfl⟩ := hrel
    go_wp2_with fail
    refine (HN.out _).mono ?_; rintro e w2 ⟨rfl, rfl⟩
    go_wp2_with fail
    go_loopw [6] (fun u wr => u = .int .i64 20 ∧ w = wr) (fun _ _ => 0)
    case atStart => exact ⟨rfl, rfl⟩
    case round =>
      obtain ⟨rfl, rfl⟩ := hrel
      go_wp2_with fail
      go_end0
      exact ⟨rfl, rfl⟩
/-- slices.SortStableFunc at a row of the call's own: the row holds the same numbers, in some order. -/
theorem sortStable_any (B : Nat) (v : Value) (zs : List Int) (Bw : Nat) (cf : Int → Int → Int) (w : World) (ho : w.ownsRow B 3 1 v zs.length (encI zs)) (hn : zs.length ≤ 1000) (hcmp : ∀ g, v.ownBlock = some g → CmpS w g Bw zs cf) :
    Calls Try.prog 51 #[v, .func (.func 52) #[] #[.pointer (some ⟨Bw, 0, none⟩)]] w fun e w' => e = .returned (.tuple #[]) ∧ (∃ zs' : List Int, w'.ownsRow B 3 1 v zs'.length (encI zs') ∧ zs'.Perm zs) ∧ Below B w w' := by
  obtain ⟨hl, ⟨rfl, h0⟩ | ⟨g, cap, cur, rfl, hb, hg, hnc, hm, hcs, ht⟩⟩ := ho
  · have hz : zs = [] := List.length_eq_zero_iff.1 h0
    subst hz
    have HN := Lib.hid (stableR_nil (.func (.func 52) #[] #[.pointer (some ⟨Bw, 0, none⟩)]))
    clear hcmp hn hl h0
    go_enter Try.func51, Try.ntmps51
    go_wp2_with fail
    refine (HN.out _).mono ?_; rintro e w2 ⟨rfl, rfl⟩
    go_wp2_with fail
    go_end0
    exact ⟨rfl, ⟨[], owns_nil _ _ _ _, List.Perm.refl _⟩, ⟨rfl, rfl, rfl, Nat.le_refl _, fun _ _ => rfl⟩⟩
  · have ho : w.ownsRow B 3 1 (.slice (some ⟨g, 0, none⟩) zs.length cap) zs.length (encI zs) := ⟨hl, .inr ⟨g, cap, cur, rfl, hb, hg, hnc, hm, hcs, ht⟩⟩
    have HC := Lib.hid (stableR_any w B g zs.length cap Bw zs cf w ⟨zs, ho, List.Perm.refl _, Save.refl _ _⟩ (hcmp g rfl) hn)
    have hgs : g < w.heap.size := lt_of_block hg
    have hB : B ≤ w.heap.size := by omega
    clear hcmp ho ht hcs hm hnc hg hl
    have HL := Lib.hid (show zs.length = zs.length from rfl)
    generalize hq : zs.length = q at *
    have HQ := Lib.hid hq; clear hq
    go_enter Try.func51, Try.ntmps51
    go_wp2_with fail
    refine HC.out.mono ?_; rintro e w2 ⟨rfl, hp⟩
    have HP := Lib.hid hp; clear hp
    go_wp2_with fail
    go_end0
    obtain ⟨zs', h1, h2, h3⟩ := HP.out
    have hlen : zs'.length = q := by have := h1.1; simpa [encI] using this
    refine ⟨rfl, ⟨zs', by rw [hlen]; exact h1, h2⟩, h3.below hb hB⟩
end Go.Proofs.Ytjfpaelmcepidaa.PK
