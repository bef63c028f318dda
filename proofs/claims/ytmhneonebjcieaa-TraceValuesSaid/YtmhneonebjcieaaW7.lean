/- The walk of Encode of the program. -/
import Derived.Test.YtmhneonebjcieaaW6
import Derived.Test.YtmhneonebjcieaaP3
namespace Go.Proofs.Ytmhneonebjcieaa
open Go.RowKit

theorem put_int (z : Int) (p : Nat) (xs : List Nat) (v : Value) (w : World) (h0 : 0 ≤ z) (h1 : z ≤ 4294967295) (hl : xs.length ≤ 2000) (hst : PutSt p w v xs) :
    Calls Try.prog 38 #[.int .i64 z, .pointer (some ⟨p, 0, none⟩)] w fun e w' => e = .returned (.tuple #[]) ∧ ∃ v', PutSt p w' v' (xs ++ grp z.toNat) ∧ Grows p w v w' v' := by
  have := put_any z.toNat p xs v w (by omega) hl hst
  rw [Int.toNat_of_nonneg h0] at this
  exact this
/-- The bytes that Encode tells: in memory of the call's own. -/
def EncPost (l : List Pl) (B : Nat) (v : Value) (w' : World) : Prop :=
  if valE l = 0 then ∃ b, B ≤ b ∧ w'.ownsRow b 5 1 v (encB l).length (encU (encB l)) else v = .slice none 0 0
theorem PutSt.start (w : World) : PutSt w.heap.size (w.alloc (.cells #[.slice none 0 0] 25)) (.slice none 0 0) [] :=
  ⟨heap_at _ _ _ rfl, rfl, .inl ⟨rfl, rfl⟩⟩

set_option maxRecDepth 100000 in
set_option maxHeartbeats 2000000 in
theorem encode_any (l : List Pl) (a : Option Addr) (cap : Nat) (w : World) (hin : PlsIn w a l) (hlc : l.length ≤ cap) (hl : l.length ≤ 1000) :
    Calls Try.prog 15 #[.slice a l.length cap] w fun e w' => (∃ v, e = .returned (.tuple #[v, .int .i64 (valE l)]) ∧ EncPost l w.heap.size v w') ∧ Below w.heap.size w w' := by
  have HV := Lib.hid (valid_any l a cap w hin hlc hl)
  have HI := Lib.hid hin; clear hin
  by_cases hE : valE l = 0
  rotate_left
  · have HP : Hid (∀ w', EncPost l w.heap.size (.slice none 0 0) w') := Lib.hid fun w' => by unfold EncPost; rw [if_neg hE]
    have hne : (valE l != 0) = true := bne_iff_ne.2 hE
    generalize valE l = E at *
    go_enter Try.func15, Try.ntmps15
    go_wp2_with fail
    refine HV.out.mono ?_; rintro e w1 ⟨rfl, hb1⟩
    go_wp2_with fail
    go_ret2
    exact ⟨⟨_, rfl, HP.out _⟩, hb1⟩
  have ht := valE_zero.1 hE
  have hl64 := ht.len
  have HP : Hid (∀ v w' b, w.heap.size ≤ b → w'.ownsRow b 5 1 v (encB l).length (encU (encB l)) → EncPost l w.heap.size v w') := Lib.hid fun v w' b h1 h2 => by
    unfold EncPost; rw [if_pos hE]; exact ⟨b, h1, h2⟩
  have HT := Lib.hid ht
  rw [hE] at HV ⊢
  clear hE ht
  have HPut := Lib.hid put_int
  go_enter Try.func15, Try.ntmps15
  go_wp2_with fail
  refine HV.out.mono ?_; rintro e w1 ⟨rfl, hb1⟩
  have hs1 := hb1.size
  have HB1 := Lib.hid hb1
  clear hb1
  have HC0 := Lib.hid (HPut.out (l.length : Int) w1.heap.size [] (.slice none 0 0) _ (by omega) (by omega) (by simp) (PutSt.start w1))
  go_wp2_with fail
  refine HC0.out.mono ?_; rintro e w3 ⟨rfl, v3, hst3, hg3⟩
  rw [List.nil_append, Int.toNat_natCast] at hst3
  have HS3 := Lib.hid hst3; have HG3 := Lib.hid hg3
  clear hst3 hg3 HC0
  go_wp2_with fail
  go_loopw [7, 22] (fun f i wr => ∃ (k : Nat) (u : Value), k ≤ l.length ∧ i = .int .i64 k ∧ f = .int .i64 (fromK l k) ∧ PutSt w1.heap.size wr u (encK l k) ∧ Grows w1.heap.size (w1.alloc (.cells #[.slice none 0 0] 25)) (.slice none 0 0) wr u) (fun _ i _ => l.length - (intOf i).toNat)
  case atStart => exact ⟨0, v3, Nat.zero_le _, rfl, rfl, by rw [encK_zero]; exact HS3.out, HG3.out⟩
  case round =>
    obtain ⟨k, u, hk, rfl, rfl, hst, hg⟩ := hrel
    have HBl := Lib.hid (HB1.out.trans ((((Below.refl _ w1).alloc (Nat.le_refl _) (.cells #[.slice none 0 0] 25)).trans (hg.below (by simp) (fun g h => by cases h))).mono hs1))
    have hzw : w1.heap.size + 1 ≤ wr.heap.size := by have := hg.size; simpa using this
    have HS := Lib.hid hst; have HG := Lib.hid hg
    by_cases hlt : k < l.length
    · have hki : (k : Int) < l.length := by omega
      obtain ⟨b, off, rfl, hc⟩ := HI.out.below HBl.out k hlt
      have hbd := fromK_bd HT.out hlt
      have hgood := HT.out.good k hlt
      have HF := Lib.hid (fromK_succ hlt)
      have HE := Lib.hid (encK_succ hlt)
      have hlen := encK_len HT.out k hk
      have hlim := limK_le (at' l k).ki
      have hq : ∀ g, u.ownBlock = some g → g < wr.heap.size := fun g h => (owns_block hst.own h).2
      have HQ : Hid (u.ownBlock ≠ some wr.heap.size) := Lib.hid fun h => by have := hq _ h; omega
      clear hst hg hq
      generalize at' l k = x at *
      obtain ⟨x0, x1, x2, x3, x4⟩ := x
      obtain ⟨c0, c1, c2, c3, c4⟩ := hc
      obtain ⟨g0, g1, g2, g3, g4, g5, g6, g7, g8⟩ := hgood
      simp only at c0 c1 c2 c3 c4 g0 g1 g2 g3 g4 g5 g6 g7 g8 hbd hlim
      have hx4 : x4 ≤ 4294967295 := by omega
      clear g8 hlim
      have e0 : (wr.alloc (.cells #[.int .i64 x0, .int .i64 x1, .int .i64 x2, .int .i64 x3, .int .i64 x4] 38)).cell? ⟨wr.heap.size, 0, none⟩ = some (.int .i64 x0) := by simp [go_sem]
      have e1 : (wr.alloc (.cells #[.int .i64 x0, .int .i64 x1, .int .i64 x2, .int .i64 x3, .int .i64 x4] 38)).cell? ⟨wr.heap.size, 1, none⟩ = some (.int .i64 x1) := by simp [go_sem]
      have e2 : (wr.alloc (.cells #[.int .i64 x0, .int .i64 x1, .int .i64 x2, .int .i64 x3, .int .i64 x4] 38)).cell? ⟨wr.heap.size, 2, none⟩ = some (.int .i64 x2) := by simp [go_sem]
      have e3 : (wr.alloc (.cells #[.int .i64 x0, .int .i64 x1, .int .i64 x2, .int .i64 x3, .int .i64 x4] 38)).cell? ⟨wr.heap.size, 3, none⟩ = some (.int .i64 x3) := by simp [go_sem]
      have e4 : (wr.alloc (.cells #[.int .i64 x0, .int .i64 x1, .int .i64 x2, .int .i64 x3, .int .i64 x4] 38)).cell? ⟨wr.heap.size, 4, none⟩ = some (.int .i64 x4) := by simp [go_sem]
      have HG0 := Lib.hid (HG.out.trans (Grows.alloc w1.heap.size wr u (.cells #[.int .i64 x0, .int .i64 x1, .int .i64 x2, .int .i64 x3, .int .i64 x4] 38)))
      have HS0 := Lib.hid (HS.out.alloc (.cells #[.int .i64 x0, .int .i64 x1, .int .i64 x2, .int .i64 x3, .int .i64 x4] 38))
      have hq0 : wr.heap.size < (wr.alloc (.cells #[.int .i64 x0, .int .i64 x1, .int .i64 x2, .int .i64 x3, .int .i64 x4] 38)).heap.size := by simp
      have hqp : wr.heap.size ≠ w1.heap.size := by omega
      clear HG HS
      go_wp2_with fail
      generalize wr.alloc (.cells #[.int .i64 x0, .int .i64 x1, .int .i64 x2, .int .i64 x3, .int .i64 x4] 38) = y0 at *
      generalize wr.heap.size = q at *
      generalize fromK l k = fk at *
      generalize encK l k = z0 at *
      have HC1 := Lib.hid (HPut.out (x0 - fk) w1.heap.size z0 u y0 (by omega) (by omega) (by omega) HS0.out)
      refine HC1.out.mono ?_; rintro e y1 ⟨rfl, v1, hst1, hg1⟩
      have hl1 := grp_le5 (n := (x0 - fk).toNat) (by omega)
      replace e1 := (hg1.cell hq0 hqp HQ.out 1).trans e1
      replace e2 := (hg1.cell hq0 hqp HQ.out 2).trans e2
      replace e3 := (hg1.cell hq0 hqp HQ.out 3).trans e3
      replace e4 := (hg1.cell hq0 hqp HQ.out 4).trans e4
      replace e0 := (hg1.cell hq0 hqp HQ.out 0).trans e0
      replace HQ := Lib.hid (hg1.block q hq0 hqp HQ.out).2
      replace hq0 := Nat.lt_of_lt_of_le hq0 hg1.size
      have HG1 := Lib.hid (HG0.out.trans hg1); have HS1 := Lib.hid hst1
      clear hg1 hst1 HC1 HG0 HS0
      have HC2 := Lib.hid (HPut.out (x1 - x0) w1.heap.size (z0 ++ grp (x0 - fk).toNat) v1 y1 (by omega) (by omega) (by simp only [List.length_append]; omega) HS1.out)
      go_wp2_with fail
      refine HC2.out.mono ?_; rintro e y2 ⟨rfl, v2, hst2, hg2⟩
      have hl2 := grp_le5 (n := (x1 - x0).toNat) (by omega)
      replace e2 := (hg2.cell hq0 hqp HQ.out 2).trans e2
      replace e3 := (hg2.cell hq0 hqp HQ.out 3).trans e3
      replace e4 := (hg2.cell hq0 hqp HQ.out 4).trans e4
      replace e0 := (hg2.cell hq0 hqp HQ.out 0).trans e0
      replace HQ := Lib.hid (hg2.block q hq0 hqp HQ.out).2
      replace hq0 := Nat.lt_of_lt_of_le hq0 hg2.size
      have HG2 := Lib.hid (HG1.out.trans hg2); have HS2 := Lib.hid hst2
      clear hg2 hst2 HC2 HG1 HS1
      have HC3 := Lib.hid (HPut.out x2 w1.heap.size ((z0 ++ grp (x0 - fk).toNat) ++ grp (x1 - x0).toNat) v2 y2 (by omega) (by omega) (by simp only [List.length_append]; omega) HS2.out)
      go_wp2_with fail
      refine HC3.out.mono ?_; rintro e y3 ⟨rfl, v3, hst3, hg3⟩
      have hl3 := grp_le5 (n := x2.toNat) (by omega)
      replace e3 := (hg3.cell hq0 hqp HQ.out 3).trans e3
      replace e4 := (hg3.cell hq0 hqp HQ.out 4).trans e4
      replace e0 := (hg3.cell hq0 hqp HQ.out 0).trans e0
      replace HQ := Lib.hid (hg3.block q hq0 hqp HQ.out).2
      replace hq0 := Nat.lt_of_lt_of_le hq0 hg3.size
      have HG3 := Lib.hid (HG2.out.trans hg3); have HS3 := Lib.hid hst3
      clear hg3 hst3 HC3 HG2 HS2
      have HC4 := Lib.hid (HPut.out x3 w1.heap.size (((z0 ++ grp (x0 - fk).toNat) ++ grp (x1 - x0).toNat) ++ grp x2.toNat) v3 y3 (by omega) (by omega) (by simp only [List.length_append]; omega) HS3.out)
      go_wp2_with fail
      refine HC4.out.mono ?_; rintro e y4 ⟨rfl, v4, hst4, hg4⟩
      have hl4 := grp_le5 (n := x3.toNat) (by omega)
      replace e4 := (hg4.cell hq0 hqp HQ.out 4).trans e4
      replace e0 := (hg4.cell hq0 hqp HQ.out 0).trans e0
      replace HQ := Lib.hid (hg4.block q hq0 hqp HQ.out).2
      replace hq0 := Nat.lt_of_lt_of_le hq0 hg4.size
      have HG4 := Lib.hid (HG3.out.trans hg4); have HS4 := Lib.hid hst4
      clear hg4 hst4 HC4 HG3 HS3
      have HC5 := Lib.hid (HPut.out x4 w1.heap.size ((((z0 ++ grp (x0 - fk).toNat) ++ grp (x1 - x0).toNat) ++ grp x2.toNat) ++ grp x3.toNat) v4 y4 (by omega) (by omega) (by simp only [List.length_append]; omega) HS4.out)
      go_wp2_with fail
      refine HC5.out.mono ?_; rintro e y5 ⟨rfl, v5, hst5, hg5⟩
      have hl5 := grp_le5 (n := x4.toNat) (by omega)
      replace e0 := (hg5.cell hq0 hqp HQ.out 0).trans e0
      replace HQ := Lib.hid (hg5.block q hq0 hqp HQ.out).2
      replace hq0 := Nat.lt_of_lt_of_le hq0 hg5.size
      have HG5 := Lib.hid (HG4.out.trans hg5); have HS5 := Lib.hid hst5
      clear hg5 hst5 HC5 HG4 HS4
      go_wp2_with fail
      go_roundw
      case rel => exact ⟨k + 1, v5, by omega, by go_num, by rw [HF.out], by rw [HE.out]; exact HS5.out, HG5.out⟩
      case measure => simp [intOf]; omega
    · obtain rfl : k = l.length := by omega
      have hki : ¬ (l.length : Int) < l.length := by omega
      rw [encK_full] at hst
      have cb : wr.cell? ⟨w1.heap.size, 0, none⟩ = some u := cell_of_row wr w1.heap.size 0 _ _ _ hst.box
      have HO := Lib.hid hst.own
      obtain ⟨ua, uc, rfl⟩ := owns_shape hst.own
      clear hst hg HS HG
      go_wp2_with fail
      go_ret2
      exact ⟨⟨_, rfl, HP.out _ _ _ (by omega) HO.out⟩, HBl.out⟩
end Go.Proofs.Ytmhneonebjcieaa
