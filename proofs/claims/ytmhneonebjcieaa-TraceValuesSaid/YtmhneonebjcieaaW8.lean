/- The walks of group and Encode of the document. -/
import Derived.Test.YtmhneonebjcieaaW7
namespace Go.Proofs.Ytmhneonebjcieaa
open Go.RowKit

set_option maxRecDepth 100000 in
set_option maxHeartbeats 2000000 in
theorem group_any (n : Nat) (w : World) (hn : n ≤ 4294967295) :
    Calls Try.prog 39 #[.int .i64 n] w fun e w' => (∃ v, e = .returned v ∧ w'.ownsRow w.heap.size 5 1 v (grp n).length (encU (grp n))) ∧ Below w.heap.size w w' := by
  obtain ⟨N, hN⟩ : ∃ N : Nat, N = 4294967295 := ⟨_, rfl⟩
  rw [← hN] at hn
  have HN := Lib.hid hN; clear hN
  have hgl := grp_len 4 n (by have := HN.out; omega)
  obtain ⟨i0, hi, hz0, hz1, hz2⟩ := info_parts Try.infoByte
  go_enter Try.func39, Try.ntmps39
  go_wp2_with fail
  go_loopw [0, 3] (fun i u wr => ∃ (m : Nat) (ys : List Nat), i = .int .i64 m ∧ m ≤ n ∧ ys ++ grp m = grp n ∧ wr.ownsRow w.heap.size 5 1 u ys.length (encU ys) ∧ Below w.heap.size w wr) (fun i _ _ => (intOf i).toNat)
  case atStart => exact ⟨n, [], rfl, Nat.le_refl _, rfl, ⟨rfl, .inl ⟨rfl, rfl⟩⟩, Below.refl _ _⟩
  case round =>
    obtain ⟨m, ys, rfl, hmn, hys, ho, hb⟩ := hrel
    have hyl : ys.length ≤ 5 := by
      have := congrArg List.length hys
      rw [List.length_append] at this
      omega
    have hy63 : ys.length + 1 ≤ maxLen := by unfold maxLen; omega
    have HO := Lib.hid ho; have HB := Lib.hid hb; have HY := Lib.hid hys
    have HBw : Hid (∀ o, w.heap.size ≤ (wr.alloc o).heap.size) := Lib.hid fun o => by have := hb.size; simp; omega
    have HBy : Hid ((ys.length + 1) * 1 ≤ 140737488355328) := Lib.hid (by omega)
    clear ho hb hys
    by_cases h127 : m < 128
    · have hmi : ¬ (128 : Int) ≤ (m : Int) := by omega
      have hm8 : (m : Int) ≤ 255 := by omega
      have HGr : Hid (ys ++ [m] = grp n) := Lib.hid (by rw [← HY.out, grp_lt h127])
      clear hgl
      go_wp2_with (at_builtin; refine wpList_append_own_at _ rfl _ _ 25 rfl w.heap.size 5 i0 (.int .u8 0) 1 1 Try.underlying25 hi hz0 hz1 hz2 rfl (by decide) _ _ _ rfl (HO.out.alloc _) ⟨wr.heap.size, 0, none⟩ 1 1 [.int .u8 (m : Int)] rfl rfl (cell_one_new _ _ _) one_byte hy63 HBy.out (HBw.out _) ?_; intro v' w4 hown4 hgrow4 _ hat4; have HB4 := Lib.hid ((HB.out.alloc HB.out.size _).grown hgrow4 (HBw.out _) (fun k hk => (owns_block HO.out hk).1)); rw [show ys.length + 1 = (ys ++ [m]).length by simp, ← encU_snoc] at hown4; have HO4 := Lib.hid hown4; clear hown4 hgrow4 hat4)
      go_ret
      exact ⟨⟨_, rfl, by rw [← HGr.out]; exact HO4.out⟩, HB4.out⟩
    · have hmi : (128 : Int) ≤ (m : Int) := by omega
      obtain ⟨r, hr⟩ : ∃ r, m % 128 = r := ⟨_, rfl⟩
      have hr8 : r < 128 := by omega
      have hmod : (m : Int) % 128 = (r : Int) := by omega
      have hr9 : 128 + (r : Int) ≤ 255 := by omega
      obtain ⟨d, hd⟩ : ∃ d, m / 128 = d := ⟨_, rfl⟩
      have hdiv : (m : Int) / 128 = (d : Int) := by omega
      have hd9 : (d : Int) ≤ 100000000 := by have := HN.out; omega
      have hdm : d < m := by omega
      have hwr : IntKind.i64.wrap (d : Int) = (d : Int) := IntWalk.i64_in _ (by omega)
      have HGr : Hid ((ys ++ [r + 128]) ++ grp d = grp n) := Lib.hid (by rw [← HY.out, grp_ge (n := m) (by omega), hr, hd, List.append_assoc]; rfl)
      have HR := Lib.hid hr
      clear hr hgl hd
      go_wp2_with (at_builtin; refine wpList_append_own_at _ rfl _ _ 25 rfl w.heap.size 5 i0 (.int .u8 0) 1 1 Try.underlying25 hi hz0 hz1 hz2 rfl (by decide) _ _ _ rfl (HO.out.alloc _) ⟨wr.heap.size, 0, none⟩ 1 1 [.int .u8 (128 + (r : Int))] rfl rfl (cell_one_new _ _ _) one_byte hy63 HBy.out (HBw.out _) ?_; intro v' w4 hown4 hgrow4 _ hat4; have HB4 := Lib.hid ((HB.out.alloc HB.out.size _).grown hgrow4 (HBw.out _) (fun k hk => (owns_block HO.out hk).1)); rw [show (128 : Int) + (r : Int) = ((r + 128 : Nat) : Int) by omega, show ys.length + 1 = (ys ++ [r + 128]).length by simp, ← encU_snoc] at hown4; have HO4 := Lib.hid hown4; clear hown4 hgrow4 hat4)
      go_roundw
      case rel => exact ⟨d, ys ++ [r + 128], by first | rfl | go_num, by omega, HGr.out, HO4.out, HB4.out⟩
      case measure => simp [intOf]; omega
theorem group_int (z : Int) (w : World) (h0 : 0 ≤ z) (h1 : z ≤ 4294967295) :
    Calls Try.prog 39 #[.int .i64 z] w fun e w' => (∃ b cap, e = .returned (.slice (some ⟨b, 0, none⟩) (grp z.toNat).length cap) ∧ w.heap.size ≤ b ∧ (∀ j u, (encU (grp z.toNat))[j]? = some u → w'.cell? ⟨b, j, none⟩ = some u)) ∧ Below w.heap.size w w' := by
  have := group_any z.toNat w (by omega)
  rw [Int.toNat_of_nonneg h0] at this
  refine this.mono ?_
  rintro e w' ⟨⟨v, rfl, hl, ⟨rfl, h2⟩ | ⟨g, cap, cur, rfl, hb, hg, hnc, hm, hcs, ht⟩⟩, hbl⟩
  · exact absurd (List.length_eq_zero_iff.1 h2) (grp_ne _)
  · refine ⟨⟨g, cap, rfl, hb, fun j u hj => ?_⟩, hbl⟩
    rw [cell_of_row w' g j _ _ _ hg]
    rw [← ht, List.getElem?_take] at hj
    split at hj
    · simpa using hj
    · cases hj
theorem encU_one (xs : List Nat) : ∀ u ∈ encU xs, u.oneCell' = true := fun u hu => by
  obtain ⟨x, _, rfl⟩ := List.mem_map.1 hu
  rfl
theorem encU_append (xs ys : List Nat) : encU (xs ++ ys) = encU xs ++ encU ys := by simp [encU]
theorem own_ne {w : World} {base : Nat} {e : TypeId} {s n : Nat} {v : Value} {xs : List Value} (h : w.ownsRow base e s v n xs) : v.ownBlock ≠ some w.heap.size := fun e => absurd (owns_block h e).2 (Nat.lt_irrefl _)
theorem addr_zero (b j : Nat) : (⟨b, 0, none⟩ : Addr).add j = ⟨b, j, none⟩ := by unfold Addr.add; simp; intro h; omega
theorem own_still {v v' : Value} {q n : Nat} (h : v.ownBlock ≠ some q) (hat : v'.ownBlock = v.ownBlock ∨ v'.ownBlock = some n) (hne : n ≠ q) : v'.ownBlock ≠ some q := by
  rcases hat with e | e <;> rw [e]
  · exact h
  · intro e'; exact hne (Option.some.inj e')
theorem owns_below {w w' : World} {base : Nat} {e : TypeId} {s n : Nat} {v : Value} {xs : List Value} (h : w.ownsRow base e s v n xs) (hb : Below w.heap.size w w') : w'.ownsRow base e s v n xs := by
  refine ⟨h.1, ?_⟩
  rcases h.2 with h1 | ⟨g, cap, cur, e, hg, hc, r⟩
  · exact .inl h1
  · exact .inr ⟨g, cap, cur, e, hg, (hb.block g (lt_of_block hc)).trans hc, r⟩

set_option maxRecDepth 100000 in
set_option maxHeartbeats 4000000 in
theorem rEncode_any (l : List Pl) (a : Option Addr) (cap : Nat) (w : World) (hin : PlsIn w a l) (hl : l.length ≤ 1000) :
    Calls Try.prog 16 #[.slice a l.length cap] w fun e w' => (∃ v, e = .returned (.tuple #[v, .int .i64 (valE l)]) ∧ EncPost l w.heap.size v w') ∧ Below w.heap.size w w' := by
  have HV := Lib.hid (rValid_any l a cap w hin hl)
  have HI := Lib.hid hin; clear hin
  by_cases hE : valE l = 0
  rotate_left
  · have HP : Hid (∀ w', EncPost l w.heap.size (.slice none 0 0) w') := Lib.hid fun w' => by unfold EncPost; rw [if_neg hE]
    have hne : (valE l != 0) = true := bne_iff_ne.2 hE
    generalize valE l = E at *
    go_enter Try.func16, Try.ntmps16
    go_wp2_with fail
    refine HV.out.mono ?_; rintro e w1 ⟨rfl, hb1⟩
    go_wp2_with fail
    go_ret2
    exact ⟨⟨_, rfl, HP.out _⟩, hb1⟩
  have ht := valE_zero.1 hE
  have hl64 := ht.len
  have HP : Hid (∀ v w' b, w.heap.size ≤ b → w'.ownsRow b 5 1 v (encB l).length (encU (encB l)) → EncPost l w.heap.size v w') := Lib.hid fun v w' b h1 h2 => by
    unfold EncPost; rw [if_pos hE]; exact ⟨b, h1, h2⟩
  have HT := Lib.hid ht
  rw [hE] at HV ⊢
  clear hE ht
  have HGr := Lib.hid group_int
  obtain ⟨i0, hi, hz0, hz1, hz2⟩ := info_parts Try.infoByte
  go_enter Try.func16, Try.ntmps16
  go_wp2_with fail
  refine HV.out.mono ?_; rintro e w1 ⟨rfl, hb1⟩
  have hs1 := hb1.size
  have HB1 := Lib.hid hb1
  clear hb1
  have HC0 := Lib.hid (group_any l.length w1 (by omega))
  go_wp2_with fail
  refine HC0.out.mono ?_; rintro e w3 ⟨⟨v3, rfl, ho3⟩, hb3⟩
  have HO3 := Lib.hid ho3; have HB3 := Lib.hid (HB1.out.trans (hb3.mono hs1))
  obtain ⟨va3, vc3, rfl⟩ := owns_shape ho3
  clear ho3 hb3 HC0
  go_wp2_with fail
  go_loopw [5, 6, 7] (fun u f i wr => ∃ (k : Nat), k ≤ l.length ∧ i = .int .i64 k ∧ f = .int .i64 (fromK l k) ∧ wr.ownsRow w1.heap.size 5 1 u (encK l k).length (encU (encK l k)) ∧ Below w.heap.size w wr) (fun _ _ i _ => l.length - (intOf i).toNat)
  case atStart => exact ⟨0, Nat.zero_le _, rfl, rfl, by rw [encK_zero]; exact HO3.out, HB3.out⟩
  case round =>
    obtain ⟨k, hk, rfl, rfl, ho, hb⟩ := hrel
    have HBl := Lib.hid hb
    by_cases hlt : k < l.length
    · have hki : (k : Int) < l.length := by omega
      obtain ⟨b, off, rfl, hc⟩ := HI.out.below HBl.out k hlt
      have hbd := fromK_bd HT.out hlt
      have hgood := HT.out.good k hlt
      have HF := Lib.hid (fromK_succ hlt)
      have HE := Lib.hid (encK_succ hlt)
      have hlen := encK_len HT.out k hk
      have hlim := limK_le (at' l k).ki
      generalize at' l k = x at *
      obtain ⟨x0, x1, x2, x3, x4⟩ := x
      obtain ⟨c0, c1, c2, c3, c4⟩ := hc
      obtain ⟨g0, g1, g2, g3, g4, g5, g6, g7, g8⟩ := hgood
      simp only at c0 c1 c2 c3 c4 g0 g1 g2 g3 g4 g5 g6 g7 g8 hbd hlim
      have hx4 : x4 ≤ 4294967295 := by omega
      clear g8 hlim
      have e0 : (wr.alloc (.cells #[.int .i64 x0, .int .i64 x1, .int .i64 x2, .int .i64 x3, .int .i64 x4] 38)).cell? ⟨wr.heap.size, 0, none⟩ = some (.int .i64 x0) := by simp [go_sem]
      have e1 : (wr.alloc (.cells #[.int .i64 x0, .int .i64 x1, .int .i64 x2, .int .i64 x3, .int .i64 x4] 38)).cell? ⟨wr.heap.size, 1, none⟩ = some (.int .i64 x1) := by simp [go_sem]
      have e2 : (wr.alloc (.cells #[.int .i64 x0, .int .i64 x1, .int .i64 x2, .int .i64 x3, .int .i64 x4] 38)).cell? ⟨wr.heap.size, 2, none⟩ = some (.int .i64 x2) := by simp [go_sem]
      have e3 : (wr.alloc (.cells #[.int .i64 x0, .int .i64 x1, .int .i64 x2, .int .i64 x3, .int .i64 x4] 38)).cell? ⟨wr.heap.size, 3, none⟩ = some (.int .i64 x3) := by simp [go_sem]
      have e4 : (wr.alloc (.cells #[.int .i64 x0, .int .i64 x1, .int .i64 x2, .int .i64 x3, .int .i64 x4] 38)).cell? ⟨wr.heap.size, 4, none⟩ = some (.int .i64 x4) := by simp [go_sem]
      have HB0 := Lib.hid (HBl.out.alloc HBl.out.size (.cells #[.int .i64 x0, .int .i64 x1, .int .i64 x2, .int .i64 x3, .int .i64 x4] 38))
      have HO0 := Lib.hid (ho.alloc (.cells #[.int .i64 x0, .int .i64 x1, .int .i64 x2, .int .i64 x3, .int .i64 x4] 38))
      have hw10 : w1.heap.size ≤ (wr.alloc (.cells #[.int .i64 x0, .int .i64 x1, .int .i64 x2, .int .i64 x3, .int .i64 x4] 38)).heap.size := by
        rcases ho.2 with ⟨_, h0⟩ | ⟨g, _, _, _, hbg, hg, _⟩
        · exact absurd (List.length_eq_zero_iff.1 h0) (by unfold encK; simp [grp_ne])
        · have := lt_of_block hg; simp; omega
      have hq0 : wr.heap.size < (wr.alloc (.cells #[.int .i64 x0, .int .i64 x1, .int .i64 x2, .int .i64 x3, .int .i64 x4] 38)).heap.size := by simp
      have HQ := Lib.hid (own_ne ho)
      clear ho hb
      go_wp2_with fail
      generalize wr.alloc (.cells #[.int .i64 x0, .int .i64 x1, .int .i64 x2, .int .i64 x3, .int .i64 x4] 38) = y0 at *
      generalize wr.heap.size = q at *
      generalize fromK l k = fk at *
      generalize encK l k = z0 at *
      have HC1 := Lib.hid (HGr.out (x0 - fk) y0 (by omega) (by omega))
      refine HC1.out.mono ?_; rintro e s1 ⟨⟨b1, cp1, rfl, hbb1, hn1⟩, hbl1⟩
      have hgl1 := grp_le5 (n := (x0 - fk).toNat) (by omega)
      replace e0 := keep e0 hbl1
      replace e1 := keep e1 hbl1
      replace e2 := keep e2 hbl1
      replace e3 := keep e3 hbl1
      replace e4 := keep e4 hbl1
      replace hq0 := Nat.lt_of_lt_of_le hq0 hbl1.size
      replace hw10 := Nat.le_trans hw10 hbl1.size
      have HB1a := Lib.hid (HB0.out.trans (hbl1.mono HB0.out.size))
      have HO1a := Lib.hid (owns_below HO0.out hbl1)
      have hm1 : z0.length + (grp (x0 - fk).toNat).length ≤ maxLen := by unfold maxLen; (try simp only [List.length_append]); omega
      have hy1 : (z0.length + (grp (x0 - fk).toNat).length) * 1 ≤ 140737488355328 := by (try simp only [List.length_append]); omega
      have HM1 := Lib.hid hm1; have HY1 := Lib.hid hy1; have HN1 := Lib.hid hn1; have HW1 := Lib.hid hw10
      have HU1 : Hid (∀ j u, (encU (grp (x0 - fk).toNat))[j]? = some u → s1.cell? ((⟨b1, 0, none⟩ : Addr).add j) = some u) := Lib.hid fun j u h => by rw [addr_zero]; exact HN1.out j u h
      clear hm1 hy1 hn1 hbl1 hbb1 HC1 HB0 HO0
      go_wp2_with (at_builtin; refine wpList_append_own_at _ rfl _ _ 25 rfl w1.heap.size 5 i0 (.int .u8 0) 1 1 Try.underlying25 hi hz0 hz1 hz2 rfl (by decide) _ _ _ rfl HO1a.out ⟨b1, 0, none⟩ _ _ (encU (grp (x0 - fk).toNat)) rfl (by rw [encU_len, Nat.mul_one]) HU1.out (encU_one _) HM1.out HY1.out HW1.out ?_; intro v1 y1 hown hgrow _ hat; replace e0 := (World.cell?_of_block (w := s1) (hgrow.block q hq0 (Ne.symm HQ.out))).trans e0; replace e1 := (World.cell?_of_block (w := s1) (hgrow.block q hq0 (Ne.symm HQ.out))).trans e1; replace e2 := (World.cell?_of_block (w := s1) (hgrow.block q hq0 (Ne.symm HQ.out))).trans e2; replace e3 := (World.cell?_of_block (w := s1) (hgrow.block q hq0 (Ne.symm HQ.out))).trans e3; replace e4 := (World.cell?_of_block (w := s1) (hgrow.block q hq0 (Ne.symm HQ.out))).trans e4; have HB1 := Lib.hid (HB1a.out.grown hgrow HB1a.out.size (fun k hk => Nat.le_trans hs1 (owns_block HO1a.out hk).1)); replace HQ := Lib.hid (own_still HQ.out hat (Nat.ne_of_gt hq0)); replace hq0 := Nat.lt_of_lt_of_le hq0 hgrow.size; replace hw10 := Nat.le_trans hw10 hgrow.size; rw [← List.length_append, ← encU_append] at hown; have HO1 := Lib.hid hown; have HC2 := Lib.hid (HGr.out (x1 - x0) y1 (by omega) (by omega)); clear hown hgrow hat HB1a HO1a HM1 HY1 HN1 HW1 HU1)
      refine HC2.out.mono ?_; rintro e s2 ⟨⟨b2, cp2, rfl, hbb2, hn2⟩, hbl2⟩
      have hgl2 := grp_le5 (n := (x1 - x0).toNat) (by omega)
      replace e0 := keep e0 hbl2
      replace e1 := keep e1 hbl2
      replace e2 := keep e2 hbl2
      replace e3 := keep e3 hbl2
      replace e4 := keep e4 hbl2
      replace hq0 := Nat.lt_of_lt_of_le hq0 hbl2.size
      replace hw10 := Nat.le_trans hw10 hbl2.size
      have HB2a := Lib.hid (HB1.out.trans (hbl2.mono HB1.out.size))
      have HO2a := Lib.hid (owns_below HO1.out hbl2)
      have hm2 : (z0 ++ grp (x0 - fk).toNat).length + (grp (x1 - x0).toNat).length ≤ maxLen := by unfold maxLen; (try simp only [List.length_append]); omega
      have hy2 : ((z0 ++ grp (x0 - fk).toNat).length + (grp (x1 - x0).toNat).length) * 1 ≤ 140737488355328 := by (try simp only [List.length_append]); omega
      have HM2 := Lib.hid hm2; have HY2 := Lib.hid hy2; have HN2 := Lib.hid hn2; have HW2 := Lib.hid hw10
      have HU2 : Hid (∀ j u, (encU (grp (x1 - x0).toNat))[j]? = some u → s2.cell? ((⟨b2, 0, none⟩ : Addr).add j) = some u) := Lib.hid fun j u h => by rw [addr_zero]; exact HN2.out j u h
      clear hm2 hy2 hn2 hbl2 hbb2 HC2 HB1 HO1
      go_wp2_with (at_builtin; refine wpList_append_own_at _ rfl _ _ 25 rfl w1.heap.size 5 i0 (.int .u8 0) 1 1 Try.underlying25 hi hz0 hz1 hz2 rfl (by decide) _ _ _ rfl HO2a.out ⟨b2, 0, none⟩ _ _ (encU (grp (x1 - x0).toNat)) rfl (by rw [encU_len, Nat.mul_one]) HU2.out (encU_one _) HM2.out HY2.out HW2.out ?_; intro v2 y2 hown hgrow _ hat; replace e0 := (World.cell?_of_block (w := s2) (hgrow.block q hq0 (Ne.symm HQ.out))).trans e0; replace e1 := (World.cell?_of_block (w := s2) (hgrow.block q hq0 (Ne.symm HQ.out))).trans e1; replace e2 := (World.cell?_of_block (w := s2) (hgrow.block q hq0 (Ne.symm HQ.out))).trans e2; replace e3 := (World.cell?_of_block (w := s2) (hgrow.block q hq0 (Ne.symm HQ.out))).trans e3; replace e4 := (World.cell?_of_block (w := s2) (hgrow.block q hq0 (Ne.symm HQ.out))).trans e4; have HB2 := Lib.hid (HB2a.out.grown hgrow HB2a.out.size (fun k hk => Nat.le_trans hs1 (owns_block HO2a.out hk).1)); replace HQ := Lib.hid (own_still HQ.out hat (Nat.ne_of_gt hq0)); replace hq0 := Nat.lt_of_lt_of_le hq0 hgrow.size; replace hw10 := Nat.le_trans hw10 hgrow.size; rw [← List.length_append, ← encU_append] at hown; have HO2 := Lib.hid hown; have HC3 := Lib.hid (HGr.out x2 y2 (by omega) (by omega)); clear hown hgrow hat HB2a HO2a HM2 HY2 HN2 HW2 HU2)
      refine HC3.out.mono ?_; rintro e s3 ⟨⟨b3, cp3, rfl, hbb3, hn3⟩, hbl3⟩
      have hgl3 := grp_le5 (n := x2.toNat) (by omega)
      replace e0 := keep e0 hbl3
      replace e1 := keep e1 hbl3
      replace e2 := keep e2 hbl3
      replace e3 := keep e3 hbl3
      replace e4 := keep e4 hbl3
      replace hq0 := Nat.lt_of_lt_of_le hq0 hbl3.size
      replace hw10 := Nat.le_trans hw10 hbl3.size
      have HB3a := Lib.hid (HB2.out.trans (hbl3.mono HB2.out.size))
      have HO3a := Lib.hid (owns_below HO2.out hbl3)
      have hm3 : ((z0 ++ grp (x0 - fk).toNat) ++ grp (x1 - x0).toNat).length + (grp x2.toNat).length ≤ maxLen := by unfold maxLen; (try simp only [List.length_append]); omega
      have hy3 : (((z0 ++ grp (x0 - fk).toNat) ++ grp (x1 - x0).toNat).length + (grp x2.toNat).length) * 1 ≤ 140737488355328 := by (try simp only [List.length_append]); omega
      have HM3 := Lib.hid hm3; have HY3 := Lib.hid hy3; have HN3 := Lib.hid hn3; have HW3 := Lib.hid hw10
      have HU3 : Hid (∀ j u, (encU (grp x2.toNat))[j]? = some u → s3.cell? ((⟨b3, 0, none⟩ : Addr).add j) = some u) := Lib.hid fun j u h => by rw [addr_zero]; exact HN3.out j u h
      clear hm3 hy3 hn3 hbl3 hbb3 HC3 HB2 HO2
      go_wp2_with (at_builtin; refine wpList_append_own_at _ rfl _ _ 25 rfl w1.heap.size 5 i0 (.int .u8 0) 1 1 Try.underlying25 hi hz0 hz1 hz2 rfl (by decide) _ _ _ rfl HO3a.out ⟨b3, 0, none⟩ _ _ (encU (grp x2.toNat)) rfl (by rw [encU_len, Nat.mul_one]) HU3.out (encU_one _) HM3.out HY3.out HW3.out ?_; intro v3 y3 hown hgrow _ hat; replace e0 := (World.cell?_of_block (w := s3) (hgrow.block q hq0 (Ne.symm HQ.out))).trans e0; replace e1 := (World.cell?_of_block (w := s3) (hgrow.block q hq0 (Ne.symm HQ.out))).trans e1; replace e2 := (World.cell?_of_block (w := s3) (hgrow.block q hq0 (Ne.symm HQ.out))).trans e2; replace e3 := (World.cell?_of_block (w := s3) (hgrow.block q hq0 (Ne.symm HQ.out))).trans e3; replace e4 := (World.cell?_of_block (w := s3) (hgrow.block q hq0 (Ne.symm HQ.out))).trans e4; have HB3 := Lib.hid (HB3a.out.grown hgrow HB3a.out.size (fun k hk => Nat.le_trans hs1 (owns_block HO3a.out hk).1)); replace HQ := Lib.hid (own_still HQ.out hat (Nat.ne_of_gt hq0)); replace hq0 := Nat.lt_of_lt_of_le hq0 hgrow.size; replace hw10 := Nat.le_trans hw10 hgrow.size; rw [← List.length_append, ← encU_append] at hown; have HO3 := Lib.hid hown; have HC4 := Lib.hid (HGr.out x3 y3 (by omega) (by omega)); clear hown hgrow hat HB3a HO3a HM3 HY3 HN3 HW3 HU3)
      refine HC4.out.mono ?_; rintro e s4 ⟨⟨b4, cp4, rfl, hbb4, hn4⟩, hbl4⟩
      have hgl4 := grp_le5 (n := x3.toNat) (by omega)
      replace e0 := keep e0 hbl4
      replace e1 := keep e1 hbl4
      replace e2 := keep e2 hbl4
      replace e3 := keep e3 hbl4
      replace e4 := keep e4 hbl4
      replace hq0 := Nat.lt_of_lt_of_le hq0 hbl4.size
      replace hw10 := Nat.le_trans hw10 hbl4.size
      have HB4a := Lib.hid (HB3.out.trans (hbl4.mono HB3.out.size))
      have HO4a := Lib.hid (owns_below HO3.out hbl4)
      have hm4 : (((z0 ++ grp (x0 - fk).toNat) ++ grp (x1 - x0).toNat) ++ grp x2.toNat).length + (grp x3.toNat).length ≤ maxLen := by unfold maxLen; (try simp only [List.length_append]); omega
      have hy4 : ((((z0 ++ grp (x0 - fk).toNat) ++ grp (x1 - x0).toNat) ++ grp x2.toNat).length + (grp x3.toNat).length) * 1 ≤ 140737488355328 := by (try simp only [List.length_append]); omega
      have HM4 := Lib.hid hm4; have HY4 := Lib.hid hy4; have HN4 := Lib.hid hn4; have HW4 := Lib.hid hw10
      have HU4 : Hid (∀ j u, (encU (grp x3.toNat))[j]? = some u → s4.cell? ((⟨b4, 0, none⟩ : Addr).add j) = some u) := Lib.hid fun j u h => by rw [addr_zero]; exact HN4.out j u h
      clear hm4 hy4 hn4 hbl4 hbb4 HC4 HB3 HO3
      go_wp2_with (at_builtin; refine wpList_append_own_at _ rfl _ _ 25 rfl w1.heap.size 5 i0 (.int .u8 0) 1 1 Try.underlying25 hi hz0 hz1 hz2 rfl (by decide) _ _ _ rfl HO4a.out ⟨b4, 0, none⟩ _ _ (encU (grp x3.toNat)) rfl (by rw [encU_len, Nat.mul_one]) HU4.out (encU_one _) HM4.out HY4.out HW4.out ?_; intro v4 y4 hown hgrow _ hat; replace e0 := (World.cell?_of_block (w := s4) (hgrow.block q hq0 (Ne.symm HQ.out))).trans e0; replace e1 := (World.cell?_of_block (w := s4) (hgrow.block q hq0 (Ne.symm HQ.out))).trans e1; replace e2 := (World.cell?_of_block (w := s4) (hgrow.block q hq0 (Ne.symm HQ.out))).trans e2; replace e3 := (World.cell?_of_block (w := s4) (hgrow.block q hq0 (Ne.symm HQ.out))).trans e3; replace e4 := (World.cell?_of_block (w := s4) (hgrow.block q hq0 (Ne.symm HQ.out))).trans e4; have HB4 := Lib.hid (HB4a.out.grown hgrow HB4a.out.size (fun k hk => Nat.le_trans hs1 (owns_block HO4a.out hk).1)); replace HQ := Lib.hid (own_still HQ.out hat (Nat.ne_of_gt hq0)); replace hq0 := Nat.lt_of_lt_of_le hq0 hgrow.size; replace hw10 := Nat.le_trans hw10 hgrow.size; rw [← List.length_append, ← encU_append] at hown; have HO4 := Lib.hid hown; have HC5 := Lib.hid (HGr.out x4 y4 (by omega) (by omega)); clear hown hgrow hat HB4a HO4a HM4 HY4 HN4 HW4 HU4)
      refine HC5.out.mono ?_; rintro e s5 ⟨⟨b5, cp5, rfl, hbb5, hn5⟩, hbl5⟩
      have hgl5 := grp_le5 (n := x4.toNat) (by omega)
      replace e0 := keep e0 hbl5
      replace e1 := keep e1 hbl5
      replace e2 := keep e2 hbl5
      replace e3 := keep e3 hbl5
      replace e4 := keep e4 hbl5
      replace hq0 := Nat.lt_of_lt_of_le hq0 hbl5.size
      replace hw10 := Nat.le_trans hw10 hbl5.size
      have HB5a := Lib.hid (HB4.out.trans (hbl5.mono HB4.out.size))
      have HO5a := Lib.hid (owns_below HO4.out hbl5)
      have hm5 : ((((z0 ++ grp (x0 - fk).toNat) ++ grp (x1 - x0).toNat) ++ grp x2.toNat) ++ grp x3.toNat).length + (grp x4.toNat).length ≤ maxLen := by unfold maxLen; (try simp only [List.length_append]); omega
      have hy5 : (((((z0 ++ grp (x0 - fk).toNat) ++ grp (x1 - x0).toNat) ++ grp x2.toNat) ++ grp x3.toNat).length + (grp x4.toNat).length) * 1 ≤ 140737488355328 := by (try simp only [List.length_append]); omega
      have HM5 := Lib.hid hm5; have HY5 := Lib.hid hy5; have HN5 := Lib.hid hn5; have HW5 := Lib.hid hw10
      have HU5 : Hid (∀ j u, (encU (grp x4.toNat))[j]? = some u → s5.cell? ((⟨b5, 0, none⟩ : Addr).add j) = some u) := Lib.hid fun j u h => by rw [addr_zero]; exact HN5.out j u h
      clear hm5 hy5 hn5 hbl5 hbb5 HC5 HB4 HO4
      go_wp2_with (at_builtin; refine wpList_append_own_at _ rfl _ _ 25 rfl w1.heap.size 5 i0 (.int .u8 0) 1 1 Try.underlying25 hi hz0 hz1 hz2 rfl (by decide) _ _ _ rfl HO5a.out ⟨b5, 0, none⟩ _ _ (encU (grp x4.toNat)) rfl (by rw [encU_len, Nat.mul_one]) HU5.out (encU_one _) HM5.out HY5.out HW5.out ?_; intro v5 y5 hown hgrow _ hat; replace e0 := (World.cell?_of_block (w := s5) (hgrow.block q hq0 (Ne.symm HQ.out))).trans e0; replace e1 := (World.cell?_of_block (w := s5) (hgrow.block q hq0 (Ne.symm HQ.out))).trans e1; replace e2 := (World.cell?_of_block (w := s5) (hgrow.block q hq0 (Ne.symm HQ.out))).trans e2; replace e3 := (World.cell?_of_block (w := s5) (hgrow.block q hq0 (Ne.symm HQ.out))).trans e3; replace e4 := (World.cell?_of_block (w := s5) (hgrow.block q hq0 (Ne.symm HQ.out))).trans e4; have HB5 := Lib.hid (HB5a.out.grown hgrow HB5a.out.size (fun k hk => Nat.le_trans hs1 (owns_block HO5a.out hk).1)); replace HQ := Lib.hid (own_still HQ.out hat (Nat.ne_of_gt hq0)); replace hq0 := Nat.lt_of_lt_of_le hq0 hgrow.size; replace hw10 := Nat.le_trans hw10 hgrow.size; rw [← List.length_append, ← encU_append] at hown; have HO5 := Lib.hid hown; clear hown hgrow hat HB5a HO5a HM5 HY5 HN5 HW5 HU5)
      go_roundw
      case rel => exact ⟨k + 1, by omega, by go_num, by rw [HF.out], by rw [HE.out]; exact HO5.out, HB5.out⟩
      case measure => simp [intOf]; omega
    · obtain rfl : k = l.length := by omega
      have hki : ¬ (l.length : Int) < l.length := by omega
      rw [encK_full] at ho
      have HO := Lib.hid ho
      obtain ⟨ua, uc, rfl⟩ := owns_shape ho
      clear ho hb
      go_wp2_with fail
      go_ret2
      exact ⟨⟨_, rfl, HP.out _ _ _ hs1 HO.out⟩, HBl.out⟩
end Go.Proofs.Ytmhneonebjcieaa
