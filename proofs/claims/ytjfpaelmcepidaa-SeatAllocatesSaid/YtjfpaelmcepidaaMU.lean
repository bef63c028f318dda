/- The specification's uses, Uses and Defines; Uses and Defines of pick at wrong instructions. -/
import Derived.Test.YtjfpaelmcepidaaMN
import Derived.Test.YtjfpaelmcepidaaKU
namespace Go.Proofs.Ytjfpaelmcepidaa.PK
open Go.RowKit

set_option maxRecDepth 100000 in
set_option maxHeartbeats 4000000 in
theorem ruses_any (x : Cd) (w : World) : Calls Try.prog 77 #[(.agg #[.int .i64 x.op, .int .i64 x.d, .int .i64 x.a, .int .i64 x.b, .int .u32 x.im, .int .i64 x.to])] w fun e w' => (∃ v, e = .returned v ∧ UsesPost x w.heap.size v w') ∧ Below w.heap.size w w' := by
  have HH := Lib.hid (rhas_any x.op)
  have HB0 := Lib.hid ((Below.refl w.heap.size w).alloc (Nat.le_refl _) (.cells #[.int .i64 x.op, .int .i64 x.d, .int .i64 x.a, .int .i64 x.b, .int .u32 x.im, .int .i64 x.to] 68))
  have HX := Lib.hid (cdAt_new w x 68)
  have HU : Hid (∀ v w' B, w.heap.size ≤ B → w'.ownsRow B 3 1 v (usesL x).length (encI (usesL x)) → UsesPost x w.heap.size v w') := Lib.hid fun v w' B h1 h2 => owns_base h2 h1
  have HUs : Hid (usesL x = if fA x.op && decide (0 ≤ x.a) then (if fB x.op && !decide (x.b = x.a) then (if x.b < x.a then [x.b, x.a] else [x.a, x.b]) else [x.a]) else if fB x.op then [x.b] else []) := Lib.hid rfl
  generalize usesL x = us at *
  generalize hP : UsesPost x w.heap.size = P at *
  clear hP
  obtain ⟨x0, x1, x2, x3, x4, x5⟩ := x
  simp only at HH HUs
  have HX : Hid (CdAt (w.alloc (.cells #[.int .i64 x0, .int .i64 x1, .int .i64 x2, .int .i64 x3, .int .u32 x4, .int .i64 x5] 68)) w.heap.size 0 ⟨x0, x1, x2, x3, x4, x5⟩) := HX
  have HB0 : Hid (Below w.heap.size w (w.alloc (.cells #[.int .i64 x0, .int .i64 x1, .int .i64 x2, .int .i64 x3, .int .u32 x4, .int .i64 x5] 68))) := HB0
  generalize fA x0 = fa at *
  generalize fB x0 = fb at *
  generalize fD x0 = fd at *
  generalize fI x0 = fi at *
  generalize fT x0 = ft at *
  obtain ⟨i0, hi, ip0, ip1, ip2⟩ := info_parts Try.infoInt
  go_enter Try.func77, Try.ntmps77
  go_upto_region 1 with (fail)
  have hs0 : (w.alloc (.cells #[.int .i64 x0, .int .i64 x1, .int .i64 x2, .int .i64 x3, .int .u32 x4, .int .i64 x5] 68)).heap.size = w.heap.size + 1 := by simp
  generalize w.alloc (.cells #[.int .i64 x0, .int .i64 x1, .int .i64 x2, .int .i64 x3, .int .u32 x4, .int .i64 x5] 68) = w2 at *
  generalize hq : w.heap.size = q at *
  have HQ := Lib.hid hq; clear hq
  obtain ⟨B, hB⟩ : ∃ B, w2.heap.size = B := ⟨_, rfl⟩
  have hqB : q < B := by omega
  have HBq : Hid (w2.heap.size = B) := Lib.hid hB
  have HqB2 := Lib.hid hqB
  have HO0 : Hid (w2.ownsRow B 3 1 (.slice none 0 0) 0 []) := Lib.hid (owns_nil _ _ _ _)
  have HRw2 : Hid (Below B w2 w2) := Lib.hid (by rw [← hB]; exact Below.refl _ _)
  have HB2 : Hid (∀ w', Below B w2 w' → Below q w w') := Lib.hid fun w' hb => HB0.out.trans (hb.mono (by omega))
  have HqB : Hid (q ≤ B) := Lib.hid (by omega)
  clear hB hs0 hqB
  obtain ⟨c0, c1, c2, c3, c4, c5⟩ := cell_six_in0 HX.out
  simp only at c0 c1 c2 c3 c4 c5
  have HX3 := Lib.hid c3
  clear c1 c4 c5 HX
  go_wp2_with fail
  refine (HH.out _).mono ?_; rintro e v ⟨rfl, rfl⟩
  clear c0
  by_cases hA : fa = true ∧ 0 ≤ x2
  · obtain ⟨rfl, h0⟩ := hA
    have HBna := Lib.hid (HRw2.out.alloc (Nat.le_trans (Nat.le_of_eq HBq.out.symm) HRw2.out.size) (.cells #[.int .i64 x2] 3))
    have HOna := Lib.hid (HO0.out.alloc (.cells #[.int .i64 x2] 3))
    have HZa : Hid (B ≤ (w2.alloc (.cells #[.int .i64 x2] 3)).heap.size) := Lib.hid (Nat.le_trans (Nat.le_of_eq HBq.out.symm) HBna.out.size)
    have HNa := Lib.hid (cell_one_at w2 (.int .i64 x2) 3)
    have h63a : Hid (0 + 1 ≤ maxLen) := Lib.hid (by unfold maxLen; omega)
    have hbba : Hid ((0 + 1) * 8 ≤ 140737488355328) := Lib.hid (by omega)
    cases fb
    · go_wp2_with (at_builtin; refine wpList_append_own_at _ rfl _ _ 43 rfl B 3 i0 (.int .i64 0) 1 8 Try.underlying43 hi ip0 ip1 ip2 rfl (by decide) _ _ _ rfl HOna.out ⟨w2.heap.size, 0, none⟩ 1 1 [.int .i64 x2] rfl rfl HNa.out (one_int _) h63a.out hbba.out HZa.out ?_; intro va ua hown hgrow _ _; have HRua := Lib.hid (HBna.out.grown hgrow HZa.out (fun g hg => (owns_block HOna.out hg).1)); have HOua : Hid (ua.ownsRow B 3 1 va ([x2] : List Int).length (encI [x2])) := Lib.hid hown; obtain ⟨ga, ca, ea, -, -, -, -, hcla, -⟩ := owns_cells hown (by omega); cases ea; have hca0 := hcla 0 _ rfl; clear hown hgrow hcla; have k3 := keepB HX3.out HRua.out HqB2.out)
      go_quiet (fail)
      go_wp2_with fail
      go_quiet (fail)
      go_wp2_with fail
      go_ret
      have hus : us = [x2] := by rw [HUs.out]; simp [h0]
      refine ⟨⟨_, rfl, HU.out _ _ B HqB.out ?_⟩, by rw [HQ.out]; exact HB2.out _ (by first | exact below_drewN HRua.out _ | exact below_drewN (below_drewN HRua.out _) _)⟩
      rw [hus]
      exact HOua.out
    · by_cases hgt : x2 < x3
      · have hgd : decide (x2 < x3) = true := decide_eq_true hgt
        have hng : ¬ x3 < x2 := by omega
        have hne : ¬ x3 = x2 := by omega
        have HNg := Lib.hid hng; have HNe := Lib.hid hne
        go_wp2_with (at_builtin; refine wpList_append_own_at _ rfl _ _ 43 rfl B 3 i0 (.int .i64 0) 1 8 Try.underlying43 hi ip0 ip1 ip2 rfl (by decide) _ _ _ rfl HOna.out ⟨w2.heap.size, 0, none⟩ 1 1 [.int .i64 x2] rfl rfl HNa.out (one_int _) h63a.out hbba.out HZa.out ?_; intro va ua hown hgrow _ _; have HRua := Lib.hid (HBna.out.grown hgrow HZa.out (fun g hg => (owns_block HOna.out hg).1)); have HOua : Hid (ua.ownsRow B 3 1 va ([x2] : List Int).length (encI [x2])) := Lib.hid hown; obtain ⟨ga, ca, ea, -, -, -, -, hcla, -⟩ := owns_cells hown (by omega); cases ea; have hca0 := hcla 0 _ rfl; clear hown hgrow hcla; have k3 := keepB HX3.out HRua.out HqB2.out)
        go_quiet (fail)
        clear k3
        generalize hud : World.drewN ua _ = ud
        have hrd : Below B w2 ud := by rw [← hud]; exact below_drewN HRua.out _
        have HOud : Hid (ud.ownsRow B 3 1 (.slice (some ⟨ga, 0, none⟩) 1 ca) 1 (encI [x2])) := Lib.hid (by rw [← hud]; exact HOua.out)
        have HRud := Lib.hid hrd
        have k3 := keepB HX3.out hrd HqB2.out
        have HBnb := Lib.hid (HRud.out.alloc (Nat.le_trans (Nat.le_of_eq HBq.out.symm) HRud.out.size) (.cells #[.int .i64 x3] 3))
        have HOnb := Lib.hid (HOud.out.alloc (.cells #[.int .i64 x3] 3))
        have HZb : Hid (B ≤ (ud.alloc (.cells #[.int .i64 x3] 3)).heap.size) := Lib.hid (Nat.le_trans (Nat.le_of_eq HBq.out.symm) HBnb.out.size)
        have HNb := Lib.hid (cell_one_at ud (.int .i64 x3) 3)
        have h63b : Hid (1 + 1 ≤ maxLen) := Lib.hid (by unfold maxLen; omega)
        have hbbb : Hid ((1 + 1) * 8 ≤ 140737488355328) := Lib.hid (by omega)
        clear hud
        go_wp2_with (at_builtin; refine wpList_append_own_at _ rfl _ _ 43 rfl B 3 i0 (.int .i64 0) 1 8 Try.underlying43 hi ip0 ip1 ip2 rfl (by decide) _ _ _ rfl HOnb.out ⟨ud.heap.size, 0, none⟩ 1 1 [.int .i64 x3] rfl rfl HNb.out (one_int _) h63b.out hbbb.out HZb.out ?_; intro vb ub hown hgrow _ _; have HRub := Lib.hid (HBnb.out.grown hgrow HZb.out (fun g hg => (owns_block HOnb.out hg).1)); have HOub : Hid (ub.ownsRow B 3 1 vb ([x2, x3] : List Int).length (encI [x2, x3])) := Lib.hid hown; obtain ⟨gb, cb, eb, -, -, -, -, hclb, -⟩ := owns_cells hown (by omega); cases eb; have hcb0 := hclb 0 _ rfl; clear hown hgrow hclb; have k3 := keepB HX3.out HRub.out HqB2.out)
        go_wp2_with fail
        go_ret
        have hus : us = [x2, x3] := by rw [HUs.out]; simp [h0, HNg.out, HNe.out]
        refine ⟨⟨_, rfl, HU.out _ _ B HqB.out ?_⟩, by rw [HQ.out]; exact HB2.out _ (HRub.out)⟩
        rw [hus]
        exact HOub.out
      · have hgd : decide (x2 < x3) = false := decide_eq_false hgt
        by_cases hlt : x3 < x2
        · have hld : decide (x3 < x2) = true := decide_eq_true hlt
          have HLt := Lib.hid hlt
          have HNe := Lib.hid (show ¬ x3 = x2 by omega)
          go_wp2_with (at_builtin; refine wpList_append_own_at _ rfl _ _ 43 rfl B 3 i0 (.int .i64 0) 1 8 Try.underlying43 hi ip0 ip1 ip2 rfl (by decide) _ _ _ rfl HOna.out ⟨w2.heap.size, 0, none⟩ 1 1 [.int .i64 x2] rfl rfl HNa.out (one_int _) h63a.out hbba.out HZa.out ?_; intro va ua hown hgrow _ _; have HRua := Lib.hid (HBna.out.grown hgrow HZa.out (fun g hg => (owns_block HOna.out hg).1)); have HOua : Hid (ua.ownsRow B 3 1 va ([x2] : List Int).length (encI [x2])) := Lib.hid hown; obtain ⟨ga, ca, ea, -, -, -, -, hcla, -⟩ := owns_cells hown (by omega); cases ea; have hca0 := hcla 0 _ rfl; clear hown hgrow hcla; have k3 := keepB HX3.out HRua.out HqB2.out)
          go_quiet (fail)
          go_wp2_with fail
          go_quiet (fail)
          clear k3
          generalize hud : World.drewN (World.drewN ua _) _ = ud
          have hrd : Below B w2 ud := by rw [← hud]; exact below_drewN (below_drewN HRua.out _) _
          have HOud : Hid (ud.ownsRow B 3 1 (.slice (some ⟨ga, 0, none⟩) 1 ca) 1 (encI [x2])) := Lib.hid (by rw [← hud]; exact HOua.out)
          have HRud := Lib.hid hrd
          have k3 := keepB HX3.out hrd HqB2.out
          have hga : ud.cell? ⟨ga, 0, none⟩ = some (.int .i64 x2) := by rw [← hud]; exact hca0
          have HL := Lib.hid (World.ownsRow_lit (base := B) (e := 3) (size := 1) ud #[.int .i64 x3] 1 (Nat.le_trans (Nat.le_of_eq HBq.out.symm) hrd.size) (by decide) rfl)
          have hbl := hrd.alloc (Nat.le_trans (Nat.le_of_eq HBq.out.symm) hrd.size) (.cells #[.int .i64 x3] 3)
          have HBl := Lib.hid hbl
          have HGl : Hid (∀ j u, [Value.int .i64 x2][j]? = some u → (ud.alloc (.cells #[.int .i64 x3] 3)).cell? ((⟨ga, 0, none⟩ : Addr).add j) = some u) := Lib.hid (fun j u hj => by
            match j, hj with
            | 0, hj =>
              simp only [List.getElem?_cons_zero, Option.some.injEq] at hj
              subst hj
              rw [addr_zero]
              exact keep hga ((Below.refl _ _).alloc (Nat.le_refl _) _))
          have HZl : Hid (B ≤ (ud.alloc (.cells #[.int .i64 x3] 3)).heap.size) := Lib.hid (Nat.le_trans (Nat.le_of_eq HBq.out.symm) hbl.size)
          have h63l : Hid (1 + 1 ≤ maxLen) := Lib.hid (by decide)
          have hbbl : Hid ((1 + 1) * 8 ≤ 140737488355328) := Lib.hid (by decide)
          clear hud hga hbl
          go_wp2_with (at_builtin; refine wpList_append_own_at _ rfl _ _ 43 rfl B 3 i0 (.int .i64 0) 1 8 Try.underlying43 hi ip0 ip1 ip2 rfl (by decide) _ _ _ rfl HL.out ⟨ga, 0, none⟩ 1 ca [.int .i64 x2] rfl rfl HGl.out (one_int _) h63l.out hbbl.out HZl.out ?_; intro vb ub hown hgrow _ _; have HRub := Lib.hid (HBl.out.grown hgrow HZl.out (fun g hg => (owns_block HL.out hg).1)); have HOub : Hid (ub.ownsRow B 3 1 vb ([x3, x2] : List Int).length (encI [x3, x2])) := Lib.hid hown; obtain ⟨gb, cb, eb, -, -, -, -, -, -⟩ := owns_cells hown (by omega); cases eb; clear hown hgrow)
          go_wp2_with fail
          go_ret
          have hus : us = [x3, x2] := by rw [HUs.out]; simp [h0, HLt.out, HNe.out]
          refine ⟨⟨_, rfl, HU.out _ _ B HqB.out ?_⟩, by rw [HQ.out]; exact HB2.out _ (HRub.out)⟩
          rw [hus]
          exact HOub.out
        · have hld : decide (x3 < x2) = false := decide_eq_false hlt
          have HEq := Lib.hid (show x3 = x2 by omega)
          go_wp2_with (at_builtin; refine wpList_append_own_at _ rfl _ _ 43 rfl B 3 i0 (.int .i64 0) 1 8 Try.underlying43 hi ip0 ip1 ip2 rfl (by decide) _ _ _ rfl HOna.out ⟨w2.heap.size, 0, none⟩ 1 1 [.int .i64 x2] rfl rfl HNa.out (one_int _) h63a.out hbba.out HZa.out ?_; intro va ua hown hgrow _ _; have HRua := Lib.hid (HBna.out.grown hgrow HZa.out (fun g hg => (owns_block HOna.out hg).1)); have HOua : Hid (ua.ownsRow B 3 1 va ([x2] : List Int).length (encI [x2])) := Lib.hid hown; obtain ⟨ga, ca, ea, -, -, -, -, hcla, -⟩ := owns_cells hown (by omega); cases ea; have hca0 := hcla 0 _ rfl; clear hown hgrow hcla; have k3 := keepB HX3.out HRua.out HqB2.out)
          go_quiet (fail)
          go_wp2_with fail
          go_quiet (fail)
          go_wp2_with fail
          go_ret
          have hus : us = [x2] := by rw [HUs.out]; simp [h0, HEq.out]
          refine ⟨⟨_, rfl, HU.out _ _ B HqB.out ?_⟩, by rw [HQ.out]; exact HB2.out _ (by first | exact below_drewN HRua.out _ | exact below_drewN (below_drewN HRua.out _) _)⟩
          rw [hus]
          exact HOua.out
  · have hA2 : (fa && decide (0 ≤ x2)) = false := by
      cases fa
      · rfl
      · simp only [Bool.true_and, decide_eq_false_iff_not]; exact fun h => hA ⟨rfl, h⟩
    have hA3 : fa = false ∨ (fa = true ∧ ¬ 0 ≤ x2) := by
      cases fa
      · exact .inl rfl
      · exact .inr ⟨rfl, fun h => hA ⟨rfl, h⟩⟩
    have HA2 := Lib.hid hA2
    clear hA hA2
    rcases hA3 with rfl | ⟨rfl, h0⟩
    · cases fb
      · skip
        go_wp2_with fail
        go_quiet (fail)
        go_wp2_with fail
        go_quiet (fail)
        go_wp2_with fail
        go_ret
        have hus : us = [] := by rw [HUs.out]; rw [HA2.out]; rfl
        refine ⟨⟨_, rfl, HU.out _ _ B HqB.out ?_⟩, by rw [HQ.out]; exact HB2.out _ (by first | exact below_drewN HRw2.out _ | exact below_drewN (below_drewN HRw2.out _) _)⟩
        rw [hus]
        exact HO0.out
      · skip
        go_wp2_with fail
        go_quiet (fail)
        clear c3
        generalize hud : World.drewN w2 _ = ud
        have hrd : Below B w2 ud := by rw [← hud]; exact below_drewN HRw2.out _
        have HOud : Hid (ud.ownsRow B 3 1 (.slice none 0 0) 0 (encI [])) := Lib.hid (by rw [← hud]; exact HO0.out)
        have HRud := Lib.hid hrd
        have k3 := keepB HX3.out hrd HqB2.out
        have HBnb := Lib.hid (HRud.out.alloc (Nat.le_trans (Nat.le_of_eq HBq.out.symm) HRud.out.size) (.cells #[.int .i64 x3] 3))
        have HOnb := Lib.hid (HOud.out.alloc (.cells #[.int .i64 x3] 3))
        have HZb : Hid (B ≤ (ud.alloc (.cells #[.int .i64 x3] 3)).heap.size) := Lib.hid (Nat.le_trans (Nat.le_of_eq HBq.out.symm) HBnb.out.size)
        have HNb := Lib.hid (cell_one_at ud (.int .i64 x3) 3)
        have h63b : Hid (0 + 1 ≤ maxLen) := Lib.hid (by unfold maxLen; omega)
        have hbbb : Hid ((0 + 1) * 8 ≤ 140737488355328) := Lib.hid (by omega)
        clear hud
        go_wp2_with (at_builtin; refine wpList_append_own_at _ rfl _ _ 43 rfl B 3 i0 (.int .i64 0) 1 8 Try.underlying43 hi ip0 ip1 ip2 rfl (by decide) _ _ _ rfl HOnb.out ⟨ud.heap.size, 0, none⟩ 1 1 [.int .i64 x3] rfl rfl HNb.out (one_int _) h63b.out hbbb.out HZb.out ?_; intro vb ub hown hgrow _ _; have HRub := Lib.hid (HBnb.out.grown hgrow HZb.out (fun g hg => (owns_block HOnb.out hg).1)); have HOub : Hid (ub.ownsRow B 3 1 vb ([x3] : List Int).length (encI [x3])) := Lib.hid hown; obtain ⟨gb, cb, eb, -, -, -, -, hclb, -⟩ := owns_cells hown (by omega); cases eb; have hcb0 := hclb 0 _ rfl; clear hown hgrow hclb; have k3 := keepB HX3.out HRub.out HqB2.out)
        go_wp2_with fail
        go_ret
        have hus : us = [x3] := by rw [HUs.out]; rw [HA2.out]; rfl
        refine ⟨⟨_, rfl, HU.out _ _ B HqB.out ?_⟩, by rw [HQ.out]; exact HB2.out _ (HRub.out)⟩
        rw [hus]
        exact HOub.out
    · cases fb
      · skip
        have h0d : decide (0 ≤ x2) = false := decide_eq_false h0
        go_wp2_with fail
        go_quiet (fail)
        go_wp2_with fail
        go_quiet (fail)
        go_wp2_with fail
        go_ret
        have hus : us = [] := by rw [HUs.out]; rw [HA2.out]; rfl
        refine ⟨⟨_, rfl, HU.out _ _ B HqB.out ?_⟩, by rw [HQ.out]; exact HB2.out _ (by first | exact below_drewN HRw2.out _ | exact below_drewN (below_drewN HRw2.out _) _)⟩
        rw [hus]
        exact HO0.out
      · skip
        have h0d : decide (0 ≤ x2) = false := decide_eq_false h0
        go_wp2_with fail
        go_quiet (fail)
        clear c3
        generalize hud : World.drewN w2 _ = ud
        have hrd : Below B w2 ud := by rw [← hud]; exact below_drewN HRw2.out _
        have HOud : Hid (ud.ownsRow B 3 1 (.slice none 0 0) 0 (encI [])) := Lib.hid (by rw [← hud]; exact HO0.out)
        have HRud := Lib.hid hrd
        have k3 := keepB HX3.out hrd HqB2.out
        have HBnb := Lib.hid (HRud.out.alloc (Nat.le_trans (Nat.le_of_eq HBq.out.symm) HRud.out.size) (.cells #[.int .i64 x3] 3))
        have HOnb := Lib.hid (HOud.out.alloc (.cells #[.int .i64 x3] 3))
        have HZb : Hid (B ≤ (ud.alloc (.cells #[.int .i64 x3] 3)).heap.size) := Lib.hid (Nat.le_trans (Nat.le_of_eq HBq.out.symm) HBnb.out.size)
        have HNb := Lib.hid (cell_one_at ud (.int .i64 x3) 3)
        have h63b : Hid (0 + 1 ≤ maxLen) := Lib.hid (by unfold maxLen; omega)
        have hbbb : Hid ((0 + 1) * 8 ≤ 140737488355328) := Lib.hid (by omega)
        clear hud
        go_wp2_with (at_builtin; refine wpList_append_own_at _ rfl _ _ 43 rfl B 3 i0 (.int .i64 0) 1 8 Try.underlying43 hi ip0 ip1 ip2 rfl (by decide) _ _ _ rfl HOnb.out ⟨ud.heap.size, 0, none⟩ 1 1 [.int .i64 x3] rfl rfl HNb.out (one_int _) h63b.out hbbb.out HZb.out ?_; intro vb ub hown hgrow _ _; have HRub := Lib.hid (HBnb.out.grown hgrow HZb.out (fun g hg => (owns_block HOnb.out hg).1)); have HOub : Hid (ub.ownsRow B 3 1 vb ([x3] : List Int).length (encI [x3])) := Lib.hid hown; obtain ⟨gb, cb, eb, -, -, -, -, hclb, -⟩ := owns_cells hown (by omega); cases eb; have hcb0 := hclb 0 _ rfl; clear hown hgrow hclb; have k3 := keepB HX3.out HRub.out HqB2.out)
        go_wp2_with fail
        go_ret
        have hus : us = [x3] := by rw [HUs.out]; rw [HA2.out]; rfl
        refine ⟨⟨_, rfl, HU.out _ _ B HqB.out ?_⟩, by rw [HQ.out]; exact HB2.out _ (HRub.out)⟩
        rw [hus]
        exact HOub.out
/-- What Uses answers. -/
def UsePost (x : Cd) (w : World) (e : Ending) (w' : World) : Prop :=
  (∃ v, e = .returned (.tuple #[v, .int .i64 (if isCodeB x 200 400 = true then 0 else 1)]) ∧ w'.ownsRow w.heap.size 3 1 v (if isCodeB x 200 400 = true then usesL x else []).length (encI (if isCodeB x 200 400 = true then usesL x else []))) ∧ Below w.heap.size w w'
/-- What Defines answers. -/
def DefV (x : Cd) : Value := .tuple #[.int .i64 (if isCodeB x 200 400 = true then x.d else 0), .bool (isCodeB x 200 400 && fD x.op), .int .i64 (if isCodeB x 200 400 = true then 0 else 1)]
theorem usePost_ok {x : Cd} (hx : isCodeB x 200 400 = true) {w w' : World} {e : Ending} (h : (∃ v, e = .returned (.tuple #[v, .int .i64 0]) ∧ UsesPost x w.heap.size v w') ∧ Below w.heap.size w w') : UsePost x w e w' := by
  unfold UsePost
  rw [if_pos hx, if_pos hx]
  obtain ⟨⟨v, h1, h2⟩, h3⟩ := h
  exact ⟨⟨v, h1, h2⟩, h3⟩
theorem usePost_bad {x : Cd} (hx : isCodeB x 200 400 = false) {w w' : World} {e : Ending} (h1 : e = .returned (.tuple #[.slice none 0 0, .int .i64 1])) (h3 : Below w.heap.size w w') : UsePost x w e w' := by
  unfold UsePost
  rw [hx]
  exact ⟨⟨_, h1, owns_nil _ _ _ _⟩, h3⟩
theorem defV_ok {x : Cd} (hx : isCodeB x 200 400 = true) : DefV x = .tuple #[.int .i64 x.d, .bool (fD x.op), .int .i64 0] := by unfold DefV; rw [hx]; rfl
theorem defV_bad {x : Cd} (hx : isCodeB x 200 400 = false) : DefV x = .tuple #[.int .i64 0, .bool false, .int .i64 1] := by unfold DefV; rw [hx]; rfl
theorem UsesPost_base {x : Cd} {B B' : Nat} {v : Value} {w : World} (h : UsesPost x B v w) (hb : B' ≤ B) : UsesPost x B' v w := owns_base h hb
theorem rCode_is {x : Cd} {b : Bool} (h : isCodeB x 200 400 = b) (w : World) : Calls Try.prog 28 #[(.agg #[.int .i64 x.op, .int .i64 x.d, .int .i64 x.a, .int .i64 x.b, .int .u32 x.im, .int .i64 x.to]), .int .i64 200, .int .i64 400] w fun e w' => e = .returned (.bool b) ∧ Below w.heap.size w w' := by rw [← h]; exact rCode_any x 200 400 (by omega) (by omega) w
set_option maxRecDepth 100000 in
set_option maxHeartbeats 1000000 in
theorem Uses_bad (x : Cd) (hx : isCodeB x 200 400 = false) (w : World) : Calls Try.prog 57 #[(.agg #[.int .i64 x.op, .int .i64 x.d, .int .i64 x.a, .int .i64 x.b, .int .u32 x.im, .int .i64 x.to])] w fun e w' => e = .returned (.tuple #[.slice none 0 0, .int .i64 1]) ∧ Below w.heap.size w w' := by
  have HB0 := Lib.hid ((Below.refl w.heap.size w).alloc (Nat.le_refl _) (.cells #[.int .i64 x.op, .int .i64 x.d, .int .i64 x.a, .int .i64 x.b, .int .u32 x.im, .int .i64 x.to] 68))
  have HX := Lib.hid (cdAt_new w x 68)
  have HC := Lib.hid (isCode_is hx)
  obtain ⟨x0, x1, x2, x3, x4, x5⟩ := x
  simp only at HC
  have HX : Hid (CdAt (w.alloc (.cells #[.int .i64 x0, .int .i64 x1, .int .i64 x2, .int .i64 x3, .int .u32 x4, .int .i64 x5] 68)) w.heap.size 0 ⟨x0, x1, x2, x3, x4, x5⟩) := HX
  have HB0 : Hid (Below w.heap.size w (w.alloc (.cells #[.int .i64 x0, .int .i64 x1, .int .i64 x2, .int .i64 x3, .int .u32 x4, .int .i64 x5] 68))) := HB0
  have HC : Hid (∀ w : World, Calls Try.prog 48 #[.agg #[.int .i64 x0, .int .i64 x1, .int .i64 x2, .int .i64 x3, .int .u32 x4, .int .i64 x5], .int .i64 200, .int .i64 400] w fun e w' => e = .returned (.bool false) ∧ Below w.heap.size w w') := HC
  clear hx
  go_enter Try.func57, Try.ntmps57
  go_wp2_with fail
  generalize w.alloc (.cells #[.int .i64 x0, .int .i64 x1, .int .i64 x2, .int .i64 x3, .int .u32 x4, .int .i64 x5] 68) = w0 at *
  refine (HC.out _).mono ?_; rintro e w1 ⟨rfl, hb1⟩
  have HB1 := Lib.hid (HB0.out.trans (hb1.mono HB0.out.size))
  clear hb1
  go_wp2_with fail
  go_ret2
  exact ⟨rfl, HB1.out⟩
set_option maxRecDepth 100000 in
set_option maxHeartbeats 1000000 in
theorem Defines_bad (x : Cd) (hx : isCodeB x 200 400 = false) (w : World) : Calls Try.prog 58 #[(.agg #[.int .i64 x.op, .int .i64 x.d, .int .i64 x.a, .int .i64 x.b, .int .u32 x.im, .int .i64 x.to])] w fun e w' => e = .returned (.tuple #[.int .i64 0, .bool false, .int .i64 1]) ∧ Below w.heap.size w w' := by
  have HB0 := Lib.hid ((Below.refl w.heap.size w).alloc (Nat.le_refl _) (.cells #[.int .i64 x.op, .int .i64 x.d, .int .i64 x.a, .int .i64 x.b, .int .u32 x.im, .int .i64 x.to] 68))
  have HX := Lib.hid (cdAt_new w x 68)
  have HC := Lib.hid (isCode_is hx)
  obtain ⟨x0, x1, x2, x3, x4, x5⟩ := x
  simp only at HC
  have HX : Hid (CdAt (w.alloc (.cells #[.int .i64 x0, .int .i64 x1, .int .i64 x2, .int .i64 x3, .int .u32 x4, .int .i64 x5] 68)) w.heap.size 0 ⟨x0, x1, x2, x3, x4, x5⟩) := HX
  have HB0 : Hid (Below w.heap.size w (w.alloc (.cells #[.int .i64 x0, .int .i64 x1, .int .i64 x2, .int .i64 x3, .int .u32 x4, .int .i64 x5] 68))) := HB0
  have HC : Hid (∀ w : World, Calls Try.prog 48 #[.agg #[.int .i64 x0, .int .i64 x1, .int .i64 x2, .int .i64 x3, .int .u32 x4, .int .i64 x5], .int .i64 200, .int .i64 400] w fun e w' => e = .returned (.bool false) ∧ Below w.heap.size w w') := HC
  clear hx
  go_enter Try.func58, Try.ntmps58
  go_wp2_with fail
  generalize w.alloc (.cells #[.int .i64 x0, .int .i64 x1, .int .i64 x2, .int .i64 x3, .int .u32 x4, .int .i64 x5] 68) = w0 at *
  refine (HC.out _).mono ?_; rintro e w1 ⟨rfl, hb1⟩
  have HB1 := Lib.hid (HB0.out.trans (hb1.mono HB0.out.size))
  clear hb1
  go_wp2_with fail
  refine bodyPost_ret (by simp [results, Try.results58, go_sem]; rfl) rfl ?_
  exact ⟨rfl, HB1.out⟩
set_option maxRecDepth 100000 in
set_option maxHeartbeats 1000000 in
theorem rUses_bad (x : Cd) (hx : isCodeB x 200 400 = false) (w : World) : Calls Try.prog 37 #[(.agg #[.int .i64 x.op, .int .i64 x.d, .int .i64 x.a, .int .i64 x.b, .int .u32 x.im, .int .i64 x.to])] w fun e w' => e = .returned (.tuple #[.slice none 0 0, .int .i64 1]) ∧ Below w.heap.size w w' := by
  have HB0 := Lib.hid ((Below.refl w.heap.size w).alloc (Nat.le_refl _) (.cells #[.int .i64 x.op, .int .i64 x.d, .int .i64 x.a, .int .i64 x.b, .int .u32 x.im, .int .i64 x.to] 68))
  have HX := Lib.hid (cdAt_new w x 68)
  have HC := Lib.hid (rCode_is hx)
  obtain ⟨x0, x1, x2, x3, x4, x5⟩ := x
  simp only at HC
  have HX : Hid (CdAt (w.alloc (.cells #[.int .i64 x0, .int .i64 x1, .int .i64 x2, .int .i64 x3, .int .u32 x4, .int .i64 x5] 68)) w.heap.size 0 ⟨x0, x1, x2, x3, x4, x5⟩) := HX
  have HB0 : Hid (Below w.heap.size w (w.alloc (.cells #[.int .i64 x0, .int .i64 x1, .int .i64 x2, .int .i64 x3, .int .u32 x4, .int .i64 x5] 68))) := HB0
  have HC : Hid (∀ w : World, Calls Try.prog 28 #[.agg #[.int .i64 x0, .int .i64 x1, .int .i64 x2, .int .i64 x3, .int .u32 x4, .int .i64 x5], .int .i64 200, .int .i64 400] w fun e w' => e = .returned (.bool false) ∧ Below w.heap.size w w') := HC
  clear hx
  go_enter Try.func37, Try.ntmps37
  go_wp2_with fail
  generalize w.alloc (.cells #[.int .i64 x0, .int .i64 x1, .int .i64 x2, .int .i64 x3, .int .u32 x4, .int .i64 x5] 68) = w0 at *
  refine (HC.out _).mono ?_; rintro e w1 ⟨rfl, hb1⟩
  have HB1 := Lib.hid (HB0.out.trans (hb1.mono HB0.out.size))
  clear hb1
  go_wp2_with fail
  go_ret2
  exact ⟨rfl, HB1.out⟩
set_option maxRecDepth 100000 in
set_option maxHeartbeats 1000000 in
theorem rDefines_bad (x : Cd) (hx : isCodeB x 200 400 = false) (w : World) : Calls Try.prog 36 #[(.agg #[.int .i64 x.op, .int .i64 x.d, .int .i64 x.a, .int .i64 x.b, .int .u32 x.im, .int .i64 x.to])] w fun e w' => e = .returned (.tuple #[.int .i64 0, .bool false, .int .i64 1]) ∧ Below w.heap.size w w' := by
  have HB0 := Lib.hid ((Below.refl w.heap.size w).alloc (Nat.le_refl _) (.cells #[.int .i64 x.op, .int .i64 x.d, .int .i64 x.a, .int .i64 x.b, .int .u32 x.im, .int .i64 x.to] 68))
  have HX := Lib.hid (cdAt_new w x 68)
  have HC := Lib.hid (rCode_is hx)
  obtain ⟨x0, x1, x2, x3, x4, x5⟩ := x
  simp only at HC
  have HX : Hid (CdAt (w.alloc (.cells #[.int .i64 x0, .int .i64 x1, .int .i64 x2, .int .i64 x3, .int .u32 x4, .int .i64 x5] 68)) w.heap.size 0 ⟨x0, x1, x2, x3, x4, x5⟩) := HX
  have HB0 : Hid (Below w.heap.size w (w.alloc (.cells #[.int .i64 x0, .int .i64 x1, .int .i64 x2, .int .i64 x3, .int .u32 x4, .int .i64 x5] 68))) := HB0
  have HC : Hid (∀ w : World, Calls Try.prog 28 #[.agg #[.int .i64 x0, .int .i64 x1, .int .i64 x2, .int .i64 x3, .int .u32 x4, .int .i64 x5], .int .i64 200, .int .i64 400] w fun e w' => e = .returned (.bool false) ∧ Below w.heap.size w w') := HC
  clear hx
  go_enter Try.func36, Try.ntmps36
  go_wp2_with fail
  generalize w.alloc (.cells #[.int .i64 x0, .int .i64 x1, .int .i64 x2, .int .i64 x3, .int .u32 x4, .int .i64 x5] 68) = w0 at *
  refine (HC.out _).mono ?_; rintro e w1 ⟨rfl, hb1⟩
  have HB1 := Lib.hid (HB0.out.trans (hb1.mono HB0.out.size))
  clear hb1
  go_wp2_with fail
  refine bodyPost_ret (by simp [results, Try.results36, go_sem]; rfl) rfl ?_
  exact ⟨rfl, HB1.out⟩
set_option maxRecDepth 100000 in
set_option maxHeartbeats 1000000 in
theorem rUses_ok (x : Cd) (hx : isCodeB x 200 400 = true) (w : World) : Calls Try.prog 37 #[(.agg #[.int .i64 x.op, .int .i64 x.d, .int .i64 x.a, .int .i64 x.b, .int .u32 x.im, .int .i64 x.to])] w fun e w' => (∃ v, e = .returned (.tuple #[v, .int .i64 0]) ∧ UsesPost x w.heap.size v w') ∧ Below w.heap.size w w' := by
  have HB0 := Lib.hid ((Below.refl w.heap.size w).alloc (Nat.le_refl _) (.cells #[.int .i64 x.op, .int .i64 x.d, .int .i64 x.a, .int .i64 x.b, .int .u32 x.im, .int .i64 x.to] 68))
  have HX := Lib.hid (cdAt_new w x 68)
  have HC := Lib.hid (rCode_is hx)
  have HU := Lib.hid (ruses_any x)
  have HP : Hid (∀ v w' B, w.heap.size ≤ B → UsesPost x B v w' → UsesPost x w.heap.size v w') := Lib.hid fun v w' B h1 h2 => owns_base h2 h1
  clear hx
  generalize hP : UsesPost x = P at *
  clear hP
  obtain ⟨x0, x1, x2, x3, x4, x5⟩ := x
  simp only at HC
  have HX : Hid (CdAt (w.alloc (.cells #[.int .i64 x0, .int .i64 x1, .int .i64 x2, .int .i64 x3, .int .u32 x4, .int .i64 x5] 68)) w.heap.size 0 ⟨x0, x1, x2, x3, x4, x5⟩) := HX
  have HB0 : Hid (Below w.heap.size w (w.alloc (.cells #[.int .i64 x0, .int .i64 x1, .int .i64 x2, .int .i64 x3, .int .u32 x4, .int .i64 x5] 68))) := HB0
  have HC : Hid (∀ w : World, Calls Try.prog 28 #[.agg #[.int .i64 x0, .int .i64 x1, .int .i64 x2, .int .i64 x3, .int .u32 x4, .int .i64 x5], .int .i64 200, .int .i64 400] w fun e w' => e = .returned (.bool true) ∧ Below w.heap.size w w') := HC
  have HU : Hid (∀ w : World, Calls Try.prog 77 #[.agg #[.int .i64 x0, .int .i64 x1, .int .i64 x2, .int .i64 x3, .int .u32 x4, .int .i64 x5]] w fun e w' => (∃ v, e = .returned v ∧ P w.heap.size v w') ∧ Below w.heap.size w w') := HU
  go_enter Try.func37, Try.ntmps37
  go_wp2_with fail
  generalize w.alloc (.cells #[.int .i64 x0, .int .i64 x1, .int .i64 x2, .int .i64 x3, .int .u32 x4, .int .i64 x5] 68) = w0 at *
  refine (HC.out _).mono ?_; rintro e w1 ⟨rfl, hb1⟩
  have HB1 := Lib.hid (HB0.out.trans (hb1.mono HB0.out.size))
  obtain ⟨c0, c1, c2, c3, c4, c5⟩ := HX.out.keep hb1
  simp only at c0 c1 c2 c3 c4 c5
  clear hb1
  go_wp2_with fail
  refine (HU.out _).mono ?_; rintro e w2 ⟨⟨v, rfl, hp⟩, hb2⟩
  have HB2 := Lib.hid (HB1.out.trans (hb2.mono HB1.out.size))
  have HPv := Lib.hid (HP.out _ _ _ HB1.out.size hp)
  clear hb2 hp
  go_wp2_with fail
  go_ret2
  exact ⟨⟨_, rfl, HPv.out⟩, HB2.out⟩
set_option maxRecDepth 100000 in
set_option maxHeartbeats 1000000 in
theorem rDefines_ok (x : Cd) (hx : isCodeB x 200 400 = true) (w : World) : Calls Try.prog 36 #[(.agg #[.int .i64 x.op, .int .i64 x.d, .int .i64 x.a, .int .i64 x.b, .int .u32 x.im, .int .i64 x.to])] w fun e w' => e = .returned (.tuple #[.int .i64 x.d, .bool (fD x.op), .int .i64 0]) ∧ Below w.heap.size w w' := by
  have HB0 := Lib.hid ((Below.refl w.heap.size w).alloc (Nat.le_refl _) (.cells #[.int .i64 x.op, .int .i64 x.d, .int .i64 x.a, .int .i64 x.b, .int .u32 x.im, .int .i64 x.to] 68))
  have HX := Lib.hid (cdAt_new w x 68)
  have HC := Lib.hid (rCode_is hx)
  have HH := Lib.hid (rhas_any x.op)
  clear hx
  obtain ⟨x0, x1, x2, x3, x4, x5⟩ := x
  simp only at HC
  have HX : Hid (CdAt (w.alloc (.cells #[.int .i64 x0, .int .i64 x1, .int .i64 x2, .int .i64 x3, .int .u32 x4, .int .i64 x5] 68)) w.heap.size 0 ⟨x0, x1, x2, x3, x4, x5⟩) := HX
  have HB0 : Hid (Below w.heap.size w (w.alloc (.cells #[.int .i64 x0, .int .i64 x1, .int .i64 x2, .int .i64 x3, .int .u32 x4, .int .i64 x5] 68))) := HB0
  have HC : Hid (∀ w : World, Calls Try.prog 28 #[.agg #[.int .i64 x0, .int .i64 x1, .int .i64 x2, .int .i64 x3, .int .u32 x4, .int .i64 x5], .int .i64 200, .int .i64 400] w fun e w' => e = .returned (.bool true) ∧ Below w.heap.size w w') := HC
  simp only at HH
  show Calls _ _ _ _ fun e w' => e = .returned (.tuple #[.int .i64 x1, .bool (fD x0), .int .i64 0]) ∧ _
  generalize fD x0 = fd at *
  generalize fA x0 = fa at *
  generalize fB x0 = fb at *
  generalize fI x0 = fi at *
  generalize fT x0 = ft at *
  go_enter Try.func36, Try.ntmps36
  go_wp2_with fail
  generalize w.alloc (.cells #[.int .i64 x0, .int .i64 x1, .int .i64 x2, .int .i64 x3, .int .u32 x4, .int .i64 x5] 68) = w0 at *
  refine (HC.out _).mono ?_; rintro e w1 ⟨rfl, hb1⟩
  have HB1 := Lib.hid (HB0.out.trans (hb1.mono HB0.out.size))
  obtain ⟨c0, c1, c2, c3, c4, c5⟩ := cell_six_in0 (HX.out.keep hb1)
  simp only at c0 c1 c2 c3 c4 c5
  clear hb1
  go_wp2_with fail
  refine (HH.out _).mono ?_; rintro e v ⟨rfl, rfl⟩
  go_wp2_with fail
  refine bodyPost_ret (v := .tuple #[.int .i64 x1, .bool fd, .int .i64 0]) (by simp [results, Try.results36, go_sem]) rfl ⟨rfl, HB1.out⟩
theorem sUses_all (x : Cd) (w : World) : Calls Try.prog 57 #[(.agg #[.int .i64 x.op, .int .i64 x.d, .int .i64 x.a, .int .i64 x.b, .int .u32 x.im, .int .i64 x.to])] w (UsePost x w) := by
  cases hx : isCodeB x 200 400
  · exact (Uses_bad x hx w).mono fun e w' ⟨h1, h2⟩ => usePost_bad hx h1 h2
  · exact (Uses_any x hx w).mono fun e w' h => usePost_ok hx h
theorem rUses_all (x : Cd) (w : World) : Calls Try.prog 37 #[(.agg #[.int .i64 x.op, .int .i64 x.d, .int .i64 x.a, .int .i64 x.b, .int .u32 x.im, .int .i64 x.to])] w (UsePost x w) := by
  cases hx : isCodeB x 200 400
  · exact (rUses_bad x hx w).mono fun e w' ⟨h1, h2⟩ => usePost_bad hx h1 h2
  · exact (rUses_ok x hx w).mono fun e w' h => usePost_ok hx h
theorem sDefines_all (x : Cd) (w : World) : Calls Try.prog 58 #[(.agg #[.int .i64 x.op, .int .i64 x.d, .int .i64 x.a, .int .i64 x.b, .int .u32 x.im, .int .i64 x.to])] w fun e w' => e = .returned (DefV x) ∧ Below w.heap.size w w' := by
  cases hx : isCodeB x 200 400
  · rw [defV_bad hx]; exact Defines_bad x hx w
  · rw [defV_ok hx]; exact Defines_any x hx w
theorem rDefines_all (x : Cd) (w : World) : Calls Try.prog 36 #[(.agg #[.int .i64 x.op, .int .i64 x.d, .int .i64 x.a, .int .i64 x.b, .int .u32 x.im, .int .i64 x.to])] w fun e w' => e = .returned (DefV x) ∧ Below w.heap.size w w' := by
  cases hx : isCodeB x 200 400
  · rw [defV_bad hx]; exact rDefines_bad x hx w
  · rw [defV_ok hx]; exact rDefines_ok x hx w
end Go.Proofs.Ytjfpaelmcepidaa.PK
