/- Uses and definitions of instructions. -/
import Derived.Test.YtjfpaelmcepidaaKX
import Derived.Test.YtjfpaelmcepidaaS
import Derived.Sort.OwnSortedInts
import Derived.Laws.Rows
import Derived.Deep.Cut
import Derived.Outline
namespace Go.Proofs.Ytjfpaelmcepidaa.PK
open Go.RowKit Go.Sort

theorem keepB {B : Nat} {w w' : World} {b off : Nat} {v : Value} (h : w.cell? ⟨b, off, none⟩ = some v) (hb : Below B w w') (hlt : b < B) : w'.cell? ⟨b, off, none⟩ = some v := by
  rw [hb.cell (p := ⟨b, off, none⟩) hlt]; exact h
theorem contains_any (xs : List Int) (a : Option Addr) (cap : Nat) (x : Int) (w : World) (hin : IntsIn w a xs) (hl : xs.length ≤ 100000) :
    Calls Try.prog 59 #[.slice a xs.length cap, .int .i64 x] w fun e w' => e = .returned (.bool (xs.contains x)) ∧ w' = w := by
  by_cases h0 : xs = []
  · subst h0
    exact Try.slices_Contains_int_empty a cap x w
  · obtain ⟨b, off, rfl, _⟩ := hin 0 (List.length_pos_iff.2 h0)
    have := Try.slices_Contains_int b off xs.length cap xs x w (Nat.le_refl _) (by omega) (fun j hj => by
      obtain ⟨b', o', e, hc⟩ := hin j hj
      simp only [Option.some.injEq, Addr.mk.injEq, and_true] at e
      obtain ⟨rfl, rfl⟩ := e
      exact hc)
    rwa [List.take_length] at this
theorem contains_is {xs : List Int} {x : Int} {r : Bool} (hr : xs.contains x = r) {a : Option Addr} {cap : Nat} {w : World} (hin : IntsIn w a xs) (hl : xs.length ≤ 100000) :
    Calls Try.prog 59 #[.slice a xs.length cap, .int .i64 x] w fun e w' => e = .returned (.bool r) ∧ w = w' := by
  rw [← hr]
  exact (contains_any xs a cap x w hin hl).mono fun _ _ h => ⟨h.1, h.2.symm⟩
theorem sortI_any {w : World} {base : Nat} {e : TypeId} {v : Value} (zs : List Int) (h : w.ownsRow base e 1 v zs.length (encI zs)) (hl : zs.length ≤ 100000) :
    Calls Try.prog 38 #[v] w fun e' w' => e' = .returned (.tuple #[]) ∧ w'.ownsRow base e 1 v zs.length (encI (zs.mergeSort fun x y => decide (x ≤ y))) ∧ w.grownBy w' v.ownBlock := by
  rcases h.2 with ⟨rfl, h0⟩ | ⟨g, cap, cur, rfl, hbase, hb, h1, h2, h3, h4⟩
  · have hz : zs = [] := List.length_eq_zero_iff.1 h0
    subst hz
    refine (Try.slices_Sort_int_none none 0 w).mono ?_
    rintro e' w' ⟨rfl, rfl⟩
    exact ⟨rfl, by simpa [encI] using h, ⟨rfl, rfl, rfl, Nat.le_refl _, fun _ _ _ => rfl⟩⟩
  · have hg : g < w.heap.size := (Array.getElem?_eq_some_iff.1 hb).1
    refine (Try.slices_Sort_int g 0 cap zs w (holds_of_blockI hb (by rw [Nat.mul_one] at h4; exact h4)) hg (by omega)).mono ?_
    rintro e' w' ⟨rfl, n, os, rfl⟩
    exact ⟨rfl, ownsRow_sortedI (by simp) hbase hb h1 h2 h3, grownBy_sortedI _⟩
theorem sort2 (a b : Int) : ([a, b].mergeSort fun x y => decide (x ≤ y)) = if b < a then [b, a] else [a, b] := by
  simp [List.mergeSort, List.MergeSort.Internal.splitInTwo, List.merge]
  by_cases h : a ≤ b
  · simp [h, show ¬ b < a by omega]
  · simp [h, show b < a by omega]
/-- The box of an operation's fields. -/
structure FlAt (w : World) (q : Nat) (op : Int) : Prop where
  c0 : w.cell? ⟨q, 0, none⟩ = some (.bool (fD op))
  c1 : w.cell? ⟨q, 1, none⟩ = some (.bool (fA op))
  c2 : w.cell? ⟨q, 2, none⟩ = some (.bool (fB op))
  c3 : w.cell? ⟨q, 3, none⟩ = some (.bool (fI op))
  c4 : w.cell? ⟨q, 4, none⟩ = some (.bool (fT op))
  c5 : w.cell? ⟨q, 5, none⟩ = some (.bool (fM op))
theorem flAt_new (w : World) (op : Int) (t : TypeId) : FlAt (w.alloc (.cells #[.bool (fD op), .bool (fA op), .bool (fB op), .bool (fI op), .bool (fT op), .bool (fM op)] t)) w.heap.size op := ⟨by simp [go_sem], by simp [go_sem], by simp [go_sem], by simp [go_sem], by simp [go_sem], by simp [go_sem]⟩
/-- What uses hands back. -/
def UsesPost (x : Cd) (B : Nat) (v : Value) (w' : World) : Prop := w'.ownsRow B 3 1 v (usesL x).length (encI (usesL x))
set_option maxRecDepth 100000 in
set_option maxHeartbeats 2000000 in
theorem uses_any (x : Cd) (w : World) : Calls Try.prog 92 #[(.agg #[.int .i64 x.op, .int .i64 x.d, .int .i64 x.a, .int .i64 x.b, .int .u32 x.im, .int .i64 x.to])] w fun e w' => (∃ v, e = .returned v ∧ UsesPost x w.heap.size v w') ∧ Below w.heap.size w w' := by
  have HF := Lib.hid (fieldsOf_any x.op)
  have HB0 := Lib.hid ((Below.refl w.heap.size w).alloc (Nat.le_refl _) (.cells #[.int .i64 x.op, .int .i64 x.d, .int .i64 x.a, .int .i64 x.b, .int .u32 x.im, .int .i64 x.to] 68))
  have HX := Lib.hid (cdAt_new w x 68)
  have HNF := Lib.hid (fun (w' : World) => flAt_new w' x.op 134)
  unfold fieldsV at HF
  have HU : Hid (∀ v w' B, w.heap.size ≤ B → w'.ownsRow B 3 1 v (usesL x).length (encI (usesL x)) → UsesPost x w.heap.size v w') := Lib.hid fun v w' B h1 h2 => owns_base h2 h1
  have HUs : Hid (usesL x = if fA x.op && decide (0 ≤ x.a) then (if fB x.op && !decide (x.b = x.a) then (if x.b < x.a then [x.b, x.a] else [x.a, x.b]) else [x.a]) else if fB x.op then [x.b] else []) := Lib.hid rfl
  generalize usesL x = us at *
  generalize hP : UsesPost x w.heap.size = P at *
  clear hP
  obtain ⟨x0, x1, x2, x3, x4, x5⟩ := x
  simp only at HF HUs
  have HX : Hid (CdAt (w.alloc (.cells #[.int .i64 x0, .int .i64 x1, .int .i64 x2, .int .i64 x3, .int .u32 x4, .int .i64 x5] 68)) w.heap.size 0 ⟨x0, x1, x2, x3, x4, x5⟩) := HX
  have HB0 : Hid (Below w.heap.size w (w.alloc (.cells #[.int .i64 x0, .int .i64 x1, .int .i64 x2, .int .i64 x3, .int .u32 x4, .int .i64 x5] 68))) := HB0
  have HNF : Hid (∀ w' : World, FlAt (w'.alloc (.cells #[.bool (fD x0), .bool (fA x0), .bool (fB x0), .bool (fI x0), .bool (fT x0), .bool (fM x0)] 134)) w'.heap.size x0) := HNF
  obtain ⟨i0, hi, ip0, ip1, ip2⟩ := info_parts Try.infoInt
  go_enter Try.func92, Try.ntmps92
  go_wp2_with fail
  have hs0 : (w.alloc (.cells #[.int .i64 x0, .int .i64 x1, .int .i64 x2, .int .i64 x3, .int .u32 x4, .int .i64 x5] 68)).heap.size = w.heap.size + 1 := by simp
  generalize w.alloc (.cells #[.int .i64 x0, .int .i64 x1, .int .i64 x2, .int .i64 x3, .int .u32 x4, .int .i64 x5] 68) = w0 at *
  refine (HF.out w0).mono ?_; rintro e w1 ⟨rfl, hb1⟩
  have hs1 := hb1.size
  have HFl := Lib.hid (HNF.out w1)
  have HB1 := Lib.hid ((HB0.out.trans (hb1.mono HB0.out.size)).alloc (Nat.le_trans HB0.out.size hs1) (.cells #[.bool (fD x0), .bool (fA x0), .bool (fB x0), .bool (fI x0), .bool (fT x0), .bool (fM x0)] 134))
  have HX1 := Lib.hid (HX.out.keep (hb1.alloc hb1.size (.cells #[.bool (fD x0), .bool (fA x0), .bool (fB x0), .bool (fI x0), .bool (fT x0), .bool (fM x0)] 134)))
  have hs2 : (w1.alloc (.cells #[.bool (fD x0), .bool (fA x0), .bool (fB x0), .bool (fI x0), .bool (fT x0), .bool (fM x0)] 134)).heap.size = w1.heap.size + 1 := by simp
  clear hb1
  go_upto_region 3 with (fail)
  generalize w1.alloc (.cells #[.bool (fD x0), .bool (fA x0), .bool (fB x0), .bool (fI x0), .bool (fT x0), .bool (fM x0)] 134) = w2 at *
  generalize hq : w.heap.size = q at *
  generalize w1.heap.size = qf at *
  have HQ := Lib.hid hq; clear hq
  obtain ⟨B, hB⟩ : ∃ B, w2.heap.size = B := ⟨_, rfl⟩
  have hqB : q < B := by omega
  have hfB : qf < B := by omega
  have HBq : Hid (w2.heap.size = B) := Lib.hid hB
  have HO0 : Hid (w2.ownsRow B 3 1 (.slice none 0 0) 0 []) := Lib.hid (owns_nil _ _ _ _)
  have HK : Hid (∀ w', Below B w2 w' → CdAt w' q 0 ⟨x0, x1, x2, x3, x4, x5⟩ ∧ FlAt w' qf x0) := Lib.hid fun w' hb => ⟨⟨keepB HX1.out.c0 hb hqB, keepB HX1.out.c1 hb hqB, keepB HX1.out.c2 hb hqB, keepB HX1.out.c3 hb hqB, keepB HX1.out.c4 hb hqB, keepB HX1.out.c5 hb hqB⟩, ⟨keepB HFl.out.c0 hb hfB, keepB HFl.out.c1 hb hfB, keepB HFl.out.c2 hb hfB, keepB HFl.out.c3 hb hfB, keepB HFl.out.c4 hb hfB, keepB HFl.out.c5 hb hfB⟩⟩
  have HR2 : Hid (Below B w2 w2) := Lib.hid (by rw [← hB]; exact Below.refl _ _)
  have HB2 : Hid (∀ w', Below B w2 w' → Below q w w') := Lib.hid fun w' hb => HB1.out.trans (hb.mono (by omega))
  have HqB : Hid (q ≤ B) := Lib.hid (by omega)
  clear hB hs0 hs1 hs2 hqB hfB
  have c0 := HX1.out.c0; have c2 := HX1.out.c2; have c3 := HX1.out.c3
  have f1 := HFl.out.c1; have f2 := HFl.out.c2
  simp only at c0 c2 c3
  have HFb0 := Lib.hid (show fB x0 = fB x0 from rfl)
  generalize fA x0 = fa at *
  generalize hfb : fB x0 = fb at *
  have HFb := Lib.hid hfb; clear hfb HFb0
  by_cases hA : fa = true ∧ 0 ≤ x2
  · obtain ⟨rfl, h0⟩ := hA
    have HBna := Lib.hid (HR2.out.alloc (Nat.le_trans (Nat.le_of_eq HBq.out.symm) HR2.out.size) (.cells #[.int .i64 x2] 3))
    have HOna := Lib.hid (HO0.out.alloc (.cells #[.int .i64 x2] 3))
    have HZa : Hid (B ≤ (w2.alloc (.cells #[.int .i64 x2] 3)).heap.size) := Lib.hid (Nat.le_trans (Nat.le_of_eq HBq.out.symm) HBna.out.size)
    have HNa := Lib.hid (cell_one_at w2 (.int .i64 x2) 3)
    have h63a : Hid (0 + 1 ≤ maxLen) := Lib.hid (by unfold maxLen; omega)
    have hbba : Hid ((0 + 1) * 8 ≤ 140737488355328) := Lib.hid (by omega)
    cases fb
    · go_wp2_with (at_builtin; refine wpList_append_own_at _ rfl _ _ 43 rfl B 3 i0 (.int .i64 0) 1 8 Try.underlying43 hi ip0 ip1 ip2 rfl (by decide) _ _ _ rfl HOna.out ⟨w2.heap.size, 0, none⟩ 1 1 [.int .i64 x2] rfl rfl HNa.out (one_int _) h63a.out hbba.out HZa.out ?_; intro va ua hown hgrow _ _; have HRua := Lib.hid (HBna.out.grown hgrow HZa.out (fun g hg => (owns_block HOna.out hg).1)); have HOua := Lib.hid hown; obtain ⟨vaa, vca, rfl⟩ := owns_shape hown; clear hown hgrow; obtain ⟨hcx, hfx⟩ := HK.out _ HRua.out; have k3 := hcx.c3; have k2 := hfx.c2; rw [HFb.out] at k2; simp only at k3; clear hcx hfx; have HOx : Hid (ua.ownsRow B 3 1 (.slice vaa (0 + 1) vca) [x2].length (encI [x2])) := HOua)
      have HSo := Lib.hid (sortI_any [x2] HOx.out (by simp))
      have HRw := Lib.hid HRua.out
      have HGb := Lib.hid (fun g hg => (owns_block HOx.out (g := g) hg).1)
      refine HSo.out.mono ?_; rintro e w8 ⟨rfl, ho8, hg8⟩
      have HB8 := Lib.hid (HB2.out _ (HRw.out.grown hg8 (Nat.le_trans (Nat.le_of_eq HBq.out.symm) HRw.out.size) HGb.out))
      have HO8 := Lib.hid ho8
      clear ho8 hg8
      go_wp2_with fail
      go_ret
      refine ⟨⟨_, rfl, HU.out _ _ B HqB.out ?_⟩, by rw [HQ.out]; exact HB8.out⟩
      rw [HUs.out]
      simpa [h0] using HO8.out
    · by_cases hx : x3 = x2
      · skip
        have hcon : ([x2] : List Int).contains x3 = true := by simp [hx]
        have HCon := Lib.hid (fun (u : World) (a' : Option Addr) (cap' : Nat) (h : IntsIn u a' [x2]) => contains_is (xs := [x2]) (x := x3) hcon (cap := cap') h (by simp))
        have HCon : Hid (∀ (u : World) (a' : Option Addr) (cap' : Nat), IntsIn u a' [x2] → Calls Try.prog 59 #[.slice a' 1 cap', .int .i64 x3] u fun e w' => e = .returned (.bool true) ∧ u = w') := HCon
        clear hcon
        have HX := Lib.hid hx; clear hx
        go_wp2_with (first | (at_builtin; refine wpList_append_own_at _ rfl _ _ 43 rfl B 3 i0 (.int .i64 0) 1 8 Try.underlying43 hi ip0 ip1 ip2 rfl (by decide) _ _ _ rfl HOna.out ⟨w2.heap.size, 0, none⟩ 1 1 [.int .i64 x2] rfl rfl HNa.out (one_int _) h63a.out hbba.out HZa.out ?_; intro va ua hown hgrow _ _; have HRua := Lib.hid (HBna.out.grown hgrow HZa.out (fun g hg => (owns_block HOna.out hg).1)); have HOua := Lib.hid hown; obtain ⟨vaa, vca, rfl⟩ := owns_shape hown; clear hown hgrow; obtain ⟨hcx, hfx⟩ := HK.out _ HRua.out; have k3 := hcx.c3; have k2 := hfx.c2; rw [HFb.out] at k2; simp only at k3; clear hcx hfx; have HOx : Hid (ua.ownsRow B 3 1 (.slice vaa (0 + 1) vca) [x2].length (encI [x2])) := HOua; obtain ⟨ca, cc, hce, _, hin⟩ := ints_of_owns HOx.out; simp only [Value.slice.injEq] at hce; obtain ⟨rfl, hz0, rfl⟩ := hce; clear hz0; have HIn := Lib.hid hin; clear hin) | (go_at_call 59; refine (HCon.out _ _ _ HIn.out).mono ?_; rintro e w5 ⟨rfl, rfl⟩))
        have HSo := Lib.hid (sortI_any [x2] HOx.out (by simp))
        have HRw := Lib.hid HRua.out
        have HGb := Lib.hid (fun g hg => (owns_block HOx.out (g := g) hg).1)
        refine HSo.out.mono ?_; rintro e w8 ⟨rfl, ho8, hg8⟩
        have HB8 := Lib.hid (HB2.out _ (HRw.out.grown hg8 (Nat.le_trans (Nat.le_of_eq HBq.out.symm) HRw.out.size) HGb.out))
        have HO8 := Lib.hid ho8
        clear ho8 hg8
        go_wp2_with fail
        go_ret
        refine ⟨⟨_, rfl, HU.out _ _ B HqB.out ?_⟩, by rw [HQ.out]; exact HB8.out⟩
        rw [HUs.out]
        simpa [h0, HX.out] using HO8.out
      · skip
        have hcon : ([x2] : List Int).contains x3 = false := by simp [hx]
        have HCon := Lib.hid (fun (u : World) (a' : Option Addr) (cap' : Nat) (h : IntsIn u a' [x2]) => contains_is (xs := [x2]) (x := x3) hcon (cap := cap') h (by simp))
        have HCon : Hid (∀ (u : World) (a' : Option Addr) (cap' : Nat), IntsIn u a' [x2] → Calls Try.prog 59 #[.slice a' 1 cap', .int .i64 x3] u fun e w' => e = .returned (.bool false) ∧ u = w') := HCon
        clear hcon
        have HX := Lib.hid hx; clear hx
        go_wp2_with (first | (at_builtin; refine wpList_append_own_at _ rfl _ _ 43 rfl B 3 i0 (.int .i64 0) 1 8 Try.underlying43 hi ip0 ip1 ip2 rfl (by decide) _ _ _ rfl HOna.out ⟨w2.heap.size, 0, none⟩ 1 1 [.int .i64 x2] rfl rfl HNa.out (one_int _) h63a.out hbba.out HZa.out ?_; intro va ua hown hgrow _ _; have HRua := Lib.hid (HBna.out.grown hgrow HZa.out (fun g hg => (owns_block HOna.out hg).1)); have HOua := Lib.hid hown; obtain ⟨vaa, vca, rfl⟩ := owns_shape hown; clear hown hgrow; obtain ⟨hcx, hfx⟩ := HK.out _ HRua.out; have k3 := hcx.c3; have k2 := hfx.c2; rw [HFb.out] at k2; simp only at k3; clear hcx hfx; have HOx : Hid (ua.ownsRow B 3 1 (.slice vaa (0 + 1) vca) [x2].length (encI [x2])) := HOua; obtain ⟨ca, cc, hce, _, hin⟩ := ints_of_owns HOx.out; simp only [Value.slice.injEq] at hce; obtain ⟨rfl, hz0, rfl⟩ := hce; clear hz0; have HIn := Lib.hid hin; clear hin; have HBnb := Lib.hid (HRua.out.alloc (Nat.le_trans (Nat.le_of_eq HBq.out.symm) HRua.out.size) (.cells #[.int .i64 x3] 3)); have HOnb := Lib.hid (HOx.out.alloc (.cells #[.int .i64 x3] 3)); have HZb : Hid (B ≤ (ua.alloc (.cells #[.int .i64 x3] 3)).heap.size) := Lib.hid (Nat.le_trans (Nat.le_of_eq HBq.out.symm) HBnb.out.size); have HNb := Lib.hid (cell_one_at ua (.int .i64 x3) 3); have h63b : Hid (1 + 1 ≤ maxLen) := Lib.hid (by unfold maxLen; omega); have hbbb : Hid ((1 + 1) * 8 ≤ 140737488355328) := Lib.hid (by omega)) | (go_at_call 59; refine (HCon.out _ _ _ HIn.out).mono ?_; rintro e w5 ⟨rfl, rfl⟩) | (at_builtin; refine wpList_append_own_at _ rfl _ _ 43 rfl B 3 i0 (.int .i64 0) 1 8 Try.underlying43 hi ip0 ip1 ip2 rfl (by decide) _ _ _ rfl HOnb.out ⟨ua.heap.size, 0, none⟩ 1 1 [.int .i64 x3] rfl rfl HNb.out (one_int _) h63b.out hbbb.out HZb.out ?_; intro vb ub hown hgrow _ _; have HRub := Lib.hid (HBnb.out.grown hgrow HZb.out (fun g hg => (owns_block HOnb.out hg).1)); have HOub := Lib.hid hown; obtain ⟨vab, vcb, rfl⟩ := owns_shape hown; clear hown hgrow))
        have HOy : Hid (ub.ownsRow B 3 1 (.slice vab (1 + 1) vcb) [x2, x3].length (encI [x2, x3])) := HOub
        have HSo := Lib.hid (sortI_any [x2, x3] HOy.out (by simp))
        have HRw := Lib.hid HRub.out
        have HGb := Lib.hid (fun g hg => (owns_block HOy.out (g := g) hg).1)
        refine HSo.out.mono ?_; rintro e w8 ⟨rfl, ho8, hg8⟩
        have HB8 := Lib.hid (HB2.out _ (HRw.out.grown hg8 (Nat.le_trans (Nat.le_of_eq HBq.out.symm) HRw.out.size) HGb.out))
        have HO8 := Lib.hid ho8
        clear ho8 hg8
        go_wp2_with fail
        go_ret
        refine ⟨⟨_, rfl, HU.out _ _ B HqB.out ?_⟩, by rw [HQ.out]; exact HB8.out⟩
        rw [HUs.out]
        rw [sort2] at HO8
        by_cases hlt : x3 < x2 <;> simpa [h0, HX.out, hlt] using HO8.out
  · have hA2 : (fa && decide (0 ≤ x2)) = false := by
      cases fa
      · rfl
      · simp only [Bool.true_and, decide_eq_false_iff_not]; exact fun h => hA ⟨rfl, h⟩
    have hA3 : fa = false ∨ ¬ 0 ≤ x2 := by
      cases fa
      · exact .inl rfl
      · exact .inr fun h => hA ⟨rfl, h⟩
    have HA2 := Lib.hid hA2
    clear hA hA2
    rcases hA3 with rfl | h0
    · skip
      cases fb
      · go_wp2_with fail
        have HOx : Hid (w2.ownsRow B 3 1 (.slice none 0 0) ([] : List Int).length (encI [])) := HO0
        have HSo := Lib.hid (sortI_any [] HOx.out (by simp))
        have HRw := Lib.hid HR2.out
        have HGb := Lib.hid (fun g hg => (owns_block HOx.out (g := g) hg).1)
        refine HSo.out.mono ?_; rintro e w8 ⟨rfl, ho8, hg8⟩
        have HB8 := Lib.hid (HB2.out _ (HRw.out.grown hg8 (Nat.le_trans (Nat.le_of_eq HBq.out.symm) HRw.out.size) HGb.out))
        have HO8 := Lib.hid ho8
        clear ho8 hg8
        go_wp2_with fail
        go_ret
        refine ⟨⟨_, rfl, HU.out _ _ B HqB.out ?_⟩, by rw [HQ.out]; exact HB8.out⟩
        rw [HUs.out]
        rw [HA2.out]
        simpa using HO8.out
      · skip
        have hcon : ([] : List Int).contains x3 = false := by simp
        have HCon := Lib.hid (fun (u : World) (a' : Option Addr) (cap' : Nat) (h : IntsIn u a' []) => contains_is (xs := []) (x := x3) hcon (cap := cap') h (by simp))
        have HCon : Hid (∀ (u : World) (a' : Option Addr) (cap' : Nat), IntsIn u a' [] → Calls Try.prog 59 #[.slice a' 0 cap', .int .i64 x3] u fun e w' => e = .returned (.bool false) ∧ u = w') := HCon
        clear hcon
        have HBnb := Lib.hid (HR2.out.alloc (Nat.le_trans (Nat.le_of_eq HBq.out.symm) HR2.out.size) (.cells #[.int .i64 x3] 3))
        have HOnb := Lib.hid (HO0.out.alloc (.cells #[.int .i64 x3] 3))
        have HZb : Hid (B ≤ (w2.alloc (.cells #[.int .i64 x3] 3)).heap.size) := Lib.hid (Nat.le_trans (Nat.le_of_eq HBq.out.symm) HBnb.out.size)
        have HNb := Lib.hid (cell_one_at w2 (.int .i64 x3) 3)
        have h63b : Hid (0 + 1 ≤ maxLen) := Lib.hid (by unfold maxLen; omega)
        have hbbb : Hid ((0 + 1) * 8 ≤ 140737488355328) := Lib.hid (by omega)
        go_wp2_with (first | (go_at_call 59; refine (HCon.out _ _ _ (IntsIn.nil _ _)).mono ?_; rintro e w5 ⟨rfl, rfl⟩) | (at_builtin; refine wpList_append_own_at _ rfl _ _ 43 rfl B 3 i0 (.int .i64 0) 1 8 Try.underlying43 hi ip0 ip1 ip2 rfl (by decide) _ _ _ rfl HOnb.out ⟨w2.heap.size, 0, none⟩ 1 1 [.int .i64 x3] rfl rfl HNb.out (one_int _) h63b.out hbbb.out HZb.out ?_; intro vb ub hown hgrow _ _; have HRub := Lib.hid (HBnb.out.grown hgrow HZb.out (fun g hg => (owns_block HOnb.out hg).1)); have HOub := Lib.hid hown; obtain ⟨vab, vcb, rfl⟩ := owns_shape hown; clear hown hgrow))
        have HOy : Hid (ub.ownsRow B 3 1 (.slice vab (0 + 1) vcb) [x3].length (encI [x3])) := HOub
        have HSo := Lib.hid (sortI_any [x3] HOy.out (by simp))
        have HRw := Lib.hid HRub.out
        have HGb := Lib.hid (fun g hg => (owns_block HOy.out (g := g) hg).1)
        refine HSo.out.mono ?_; rintro e w8 ⟨rfl, ho8, hg8⟩
        have HB8 := Lib.hid (HB2.out _ (HRw.out.grown hg8 (Nat.le_trans (Nat.le_of_eq HBq.out.symm) HRw.out.size) HGb.out))
        have HO8 := Lib.hid ho8
        clear ho8 hg8
        go_wp2_with fail
        go_ret
        refine ⟨⟨_, rfl, HU.out _ _ B HqB.out ?_⟩, by rw [HQ.out]; exact HB8.out⟩
        rw [HUs.out]
        rw [HA2.out]
        simpa using HO8.out
    · cases fa
      all_goals
        cases fb
        · go_wp2_with fail
          have HOx : Hid (w2.ownsRow B 3 1 (.slice none 0 0) ([] : List Int).length (encI [])) := HO0
          have HSo := Lib.hid (sortI_any [] HOx.out (by simp))
          have HRw := Lib.hid HR2.out
          have HGb := Lib.hid (fun g hg => (owns_block HOx.out (g := g) hg).1)
          refine HSo.out.mono ?_; rintro e w8 ⟨rfl, ho8, hg8⟩
          have HB8 := Lib.hid (HB2.out _ (HRw.out.grown hg8 (Nat.le_trans (Nat.le_of_eq HBq.out.symm) HRw.out.size) HGb.out))
          have HO8 := Lib.hid ho8
          clear ho8 hg8
          go_wp2_with fail
          go_ret
          refine ⟨⟨_, rfl, HU.out _ _ B HqB.out ?_⟩, by rw [HQ.out]; exact HB8.out⟩
          rw [HUs.out]
          rw [HA2.out]
          simpa using HO8.out
        · skip
          have hcon : ([] : List Int).contains x3 = false := by simp
          have HCon := Lib.hid (fun (u : World) (a' : Option Addr) (cap' : Nat) (h : IntsIn u a' []) => contains_is (xs := []) (x := x3) hcon (cap := cap') h (by simp))
          have HCon : Hid (∀ (u : World) (a' : Option Addr) (cap' : Nat), IntsIn u a' [] → Calls Try.prog 59 #[.slice a' 0 cap', .int .i64 x3] u fun e w' => e = .returned (.bool false) ∧ u = w') := HCon
          clear hcon
          have HBnb := Lib.hid (HR2.out.alloc (Nat.le_trans (Nat.le_of_eq HBq.out.symm) HR2.out.size) (.cells #[.int .i64 x3] 3))
          have HOnb := Lib.hid (HO0.out.alloc (.cells #[.int .i64 x3] 3))
          have HZb : Hid (B ≤ (w2.alloc (.cells #[.int .i64 x3] 3)).heap.size) := Lib.hid (Nat.le_trans (Nat.le_of_eq HBq.out.symm) HBnb.out.size)
          have HNb := Lib.hid (cell_one_at w2 (.int .i64 x3) 3)
          have h63b : Hid (0 + 1 ≤ maxLen) := Lib.hid (by unfold maxLen; omega)
          have hbbb : Hid ((0 + 1) * 8 ≤ 140737488355328) := Lib.hid (by omega)
          go_wp2_with (first | (go_at_call 59; refine (HCon.out _ _ _ (IntsIn.nil _ _)).mono ?_; rintro e w5 ⟨rfl, rfl⟩) | (at_builtin; refine wpList_append_own_at _ rfl _ _ 43 rfl B 3 i0 (.int .i64 0) 1 8 Try.underlying43 hi ip0 ip1 ip2 rfl (by decide) _ _ _ rfl HOnb.out ⟨w2.heap.size, 0, none⟩ 1 1 [.int .i64 x3] rfl rfl HNb.out (one_int _) h63b.out hbbb.out HZb.out ?_; intro vb ub hown hgrow _ _; have HRub := Lib.hid (HBnb.out.grown hgrow HZb.out (fun g hg => (owns_block HOnb.out hg).1)); have HOub := Lib.hid hown; obtain ⟨vab, vcb, rfl⟩ := owns_shape hown; clear hown hgrow))
          have HOy : Hid (ub.ownsRow B 3 1 (.slice vab (0 + 1) vcb) [x3].length (encI [x3])) := HOub
          have HSo := Lib.hid (sortI_any [x3] HOy.out (by simp))
          have HRw := Lib.hid HRub.out
          have HGb := Lib.hid (fun g hg => (owns_block HOy.out (g := g) hg).1)
          refine HSo.out.mono ?_; rintro e w8 ⟨rfl, ho8, hg8⟩
          have HB8 := Lib.hid (HB2.out _ (HRw.out.grown hg8 (Nat.le_trans (Nat.le_of_eq HBq.out.symm) HRw.out.size) HGb.out))
          have HO8 := Lib.hid ho8
          clear ho8 hg8
          go_wp2_with fail
          go_ret
          refine ⟨⟨_, rfl, HU.out _ _ B HqB.out ?_⟩, by rw [HQ.out]; exact HB8.out⟩
          rw [HUs.out]
          rw [HA2.out]
          simpa using HO8.out
end Go.Proofs.Ytjfpaelmcepidaa.PK
namespace Go.Proofs.Ytjfpaelmcepidaa.PK
open Go.RowKit

theorem isCode_is {x : Cd} {regs blocks : Int} {b : Bool} (h : isCodeB x regs blocks = b) (w : World) : Calls Try.prog 48 #[(.agg #[.int .i64 x.op, .int .i64 x.d, .int .i64 x.a, .int .i64 x.b, .int .u32 x.im, .int .i64 x.to]), .int .i64 regs, .int .i64 blocks] w fun e w' => e = .returned (.bool b) ∧ Below w.heap.size w w' := by rw [← h]; exact isCode_any x regs blocks w
set_option maxRecDepth 100000 in
set_option maxHeartbeats 1000000 in
theorem Uses_any (x : Cd) (hx : isCodeB x 200 400 = true) (w : World) : Calls Try.prog 57 #[(.agg #[.int .i64 x.op, .int .i64 x.d, .int .i64 x.a, .int .i64 x.b, .int .u32 x.im, .int .i64 x.to])] w fun e w' => (∃ v, e = .returned (.tuple #[v, .int .i64 0]) ∧ UsesPost x w.heap.size v w') ∧ Below w.heap.size w w' := by
  have HB0 := Lib.hid ((Below.refl w.heap.size w).alloc (Nat.le_refl _) (.cells #[.int .i64 x.op, .int .i64 x.d, .int .i64 x.a, .int .i64 x.b, .int .u32 x.im, .int .i64 x.to] 68))
  have HX := Lib.hid (cdAt_new w x 68)
  have HC := Lib.hid (isCode_is hx)
  have HU := Lib.hid (uses_any x)
  have HP : Hid (∀ v w' B, w.heap.size ≤ B → UsesPost x B v w' → UsesPost x w.heap.size v w') := Lib.hid fun v w' B h1 h2 => owns_base h2 h1
  clear hx
  generalize hP : UsesPost x = P at *
  clear hP
  obtain ⟨x0, x1, x2, x3, x4, x5⟩ := x
  simp only at HC HU
  have HX : Hid (CdAt (w.alloc (.cells #[.int .i64 x0, .int .i64 x1, .int .i64 x2, .int .i64 x3, .int .u32 x4, .int .i64 x5] 68)) w.heap.size 0 ⟨x0, x1, x2, x3, x4, x5⟩) := HX
  have HB0 : Hid (Below w.heap.size w (w.alloc (.cells #[.int .i64 x0, .int .i64 x1, .int .i64 x2, .int .i64 x3, .int .u32 x4, .int .i64 x5] 68))) := HB0
  have HC : Hid (∀ w : World, Calls Try.prog 48 #[.agg #[.int .i64 x0, .int .i64 x1, .int .i64 x2, .int .i64 x3, .int .u32 x4, .int .i64 x5], .int .i64 200, .int .i64 400] w fun e w' => e = .returned (.bool true) ∧ Below w.heap.size w w') := HC
  have HU : Hid (∀ w : World, Calls Try.prog 92 #[.agg #[.int .i64 x0, .int .i64 x1, .int .i64 x2, .int .i64 x3, .int .u32 x4, .int .i64 x5]] w fun e w' => (∃ v, e = .returned v ∧ P w.heap.size v w') ∧ Below w.heap.size w w') := HU
  go_enter Try.func57, Try.ntmps57
  go_wp2_with fail
  generalize w.alloc (.cells #[.int .i64 x0, .int .i64 x1, .int .i64 x2, .int .i64 x3, .int .u32 x4, .int .i64 x5] 68) = w0 at *
  refine (HC.out _).mono ?_; rintro e w1 ⟨rfl, hb1⟩
  have HB1 := Lib.hid (HB0.out.trans (hb1.mono HB0.out.size))
  obtain ⟨c0, c1, c2, c3, c4, c5⟩ := HX.out.keep hb1
  simp only at c0 c1 c2 c3 c4 c5
  clear hb1
  go_wp2_with fail
  refine (HU.out _).mono ?_; rintro e w2 ⟨⟨v, rfl, hp⟩, hb2⟩
  have HB2 := Lib.hid (HB1.out.trans (hb2.mono HB1.out.size))
  have HPv := Lib.hid (HP.out _ _ _ HB1.out.size hp)
  clear hb2 hp
  go_wp2_with fail
  go_ret2
  exact ⟨⟨_, rfl, HPv.out⟩, HB2.out⟩
set_option maxRecDepth 100000 in
set_option maxHeartbeats 1000000 in
theorem Defines_any (x : Cd) (hx : isCodeB x 200 400 = true) (w : World) : Calls Try.prog 58 #[(.agg #[.int .i64 x.op, .int .i64 x.d, .int .i64 x.a, .int .i64 x.b, .int .u32 x.im, .int .i64 x.to])] w fun e w' => e = .returned (.tuple #[.int .i64 x.d, .bool (fD x.op), .int .i64 0]) ∧ Below w.heap.size w w' := by
  have HB0 := Lib.hid ((Below.refl w.heap.size w).alloc (Nat.le_refl _) (.cells #[.int .i64 x.op, .int .i64 x.d, .int .i64 x.a, .int .i64 x.b, .int .u32 x.im, .int .i64 x.to] 68))
  have HX := Lib.hid (cdAt_new w x 68)
  have HC := Lib.hid (isCode_is hx)
  have HF := Lib.hid (fieldsOf_any x.op)
  unfold fieldsV at HF
  clear hx
  obtain ⟨x0, x1, x2, x3, x4, x5⟩ := x
  simp only at HC HF
  have HX : Hid (CdAt (w.alloc (.cells #[.int .i64 x0, .int .i64 x1, .int .i64 x2, .int .i64 x3, .int .u32 x4, .int .i64 x5] 68)) w.heap.size 0 ⟨x0, x1, x2, x3, x4, x5⟩) := HX
  have HB0 : Hid (Below w.heap.size w (w.alloc (.cells #[.int .i64 x0, .int .i64 x1, .int .i64 x2, .int .i64 x3, .int .u32 x4, .int .i64 x5] 68))) := HB0
  have HC : Hid (∀ w : World, Calls Try.prog 48 #[.agg #[.int .i64 x0, .int .i64 x1, .int .i64 x2, .int .i64 x3, .int .u32 x4, .int .i64 x5], .int .i64 200, .int .i64 400] w fun e w' => e = .returned (.bool true) ∧ Below w.heap.size w w') := HC
  show Calls _ _ _ _ fun e w' => e = .returned (.tuple #[.int .i64 x1, .bool (fD x0), .int .i64 0]) ∧ _
  generalize fD x0 = fd at *
  generalize fA x0 = fa at *
  generalize fB x0 = fb at *
  generalize fI x0 = fi at *
  generalize fT x0 = ft at *
  generalize fM x0 = fm at *
  go_enter Try.func58, Try.ntmps58
  go_wp2_with fail
  generalize w.alloc (.cells #[.int .i64 x0, .int .i64 x1, .int .i64 x2, .int .i64 x3, .int .u32 x4, .int .i64 x5] 68) = w0 at *
  generalize hq : w.heap.size = q at *
  have HQ := Lib.hid hq; clear hq
  refine (HC.out _).mono ?_; rintro e w1 ⟨rfl, hb1⟩
  have HB1 := Lib.hid (HB0.out.trans (hb1.mono (by rw [← HQ.out]; exact HB0.out.size)))
  have HX1 := Lib.hid (HX.out.keep hb1)
  have c0 := HX1.out.c0
  simp only at c0
  clear hb1
  go_wp2_with fail
  refine (HF.out _).mono ?_; rintro e w2 ⟨rfl, hb2⟩
  have hz2 : q ≤ w2.heap.size := by rw [← HQ.out]; exact Nat.le_trans HB1.out.size hb2.size
  have HB2 := Lib.hid ((HB1.out.trans (hb2.mono (by rw [← HQ.out]; exact HB1.out.size))).alloc hz2 (.cells #[.bool fd, .bool fa, .bool fb, .bool fi, .bool ft, .bool fm] 134))
  have hal := hb2.alloc hb2.size (.cells #[.bool fd, .bool fa, .bool fb, .bool fi, .bool ft, .bool fm] 134)
  have d1 := (HX1.out.keep hal).c1
  simp only at d1
  have f0 : (w2.alloc (.cells #[.bool fd, .bool fa, .bool fb, .bool fi, .bool ft, .bool fm] 134)).cell? ⟨w2.heap.size, 0, none⟩ = some (.bool fd) := by simp [go_sem]
  clear hb2 hal c0 hz2
  go_upto_region 4 with (fail)
  generalize w2.alloc (.cells #[.bool fd, .bool fa, .bool fb, .bool fi, .bool ft, .bool fm] 134) = w3 at *
  generalize w2.heap.size = q3 at *
  go_quiet (fail)
  go_wp2_with fail
  exact bodyPost_ret (v := .tuple #[.int .i64 x1, .bool fd, .int .i64 0]) (by simp [results, Try.results58, go_sem]) rfl ⟨rfl, by rw [HQ.out]; exact below_drewN HB2.out _⟩
end Go.Proofs.Ytjfpaelmcepidaa.PK
namespace Go.Proofs.Ytjfpaelmcepidaa.PK
open Go.RowKit

/-- The first instruction at which p holds, or -1. -/
def IdxC (l : List Cd) (p : Cd → Bool) (r : Int) : Prop := (r = -1 ∧ ∀ j, j < l.length → p (atC l j) = false) ∨ (∃ k : Nat, k < l.length ∧ r = (k : Int) ∧ p (atC l k) = true ∧ ∀ j, j < k → p (atC l j) = false)
theorem anyC_true {l : List Cd} {p : Cd → Bool} : l.any p = true ↔ ∃ k, k < l.length ∧ p (atC l k) = true := by
  rw [List.any_eq_true]
  constructor
  · rintro ⟨x, hx, h⟩
    obtain ⟨k, hk, rfl⟩ := mem_atC hx
    exact ⟨k, hk, h⟩
  · rintro ⟨k, hk, h⟩; exact ⟨_, atC_mem hk, h⟩
theorem anyC_false {l : List Cd} {p : Cd → Bool} : l.any p = false ↔ ∀ k, k < l.length → p (atC l k) = false := by
  constructor
  · intro h k hk
    cases hp : p (atC l k)
    · rfl
    · rw [anyC_true.2 ⟨k, hk, hp⟩] at h; cases h
  · intro h
    cases ha : l.any p
    · rfl
    · obtain ⟨k, hk, e⟩ := anyC_true.1 ha
      rw [h k hk] at e; cases e
theorem IdxC.any {l : List Cd} {p : Cd → Bool} {r : Int} (h : IdxC l p r) : decide (0 ≤ r) = l.any p := by
  rcases h with ⟨rfl, h⟩ | ⟨k, hk, rfl, h, _⟩
  · rw [anyC_false.2 h]; rfl
  · rw [anyC_true.2 ⟨k, hk, h⟩]; simp
def IdxCPost (l : List Cd) (p : Cd → Bool) (w : World) (e : Ending) (w' : World) : Prop := ∃ r : Int, e = .returned (.int .i64 r) ∧ IdxC l p r ∧ Below w.heap.size w w'
set_option maxHeartbeats 1000000 in
theorem idxC_any (g : Nat) (lb : Array Value) (eg : ∀ args w, (callFunc g args).run Try.prog w = .ok (.enter g args) w) (p : Cd → Bool) (l : List Cd) (a : Option Addr) (cap : Nat) (w : World) (hin : CdsIn w a l) (hl : (l.length : Int) ≤ 9223372036854775807)
    (hp : ∀ k W, k < l.length → Below w.heap.size w W → Calls Try.prog g (#[(.agg #[.int .i64 (atC l k).op, .int .i64 (atC l k).d, .int .i64 (atC l k).a, .int .i64 (atC l k).b, .int .u32 (atC l k).im, .int .i64 (atC l k).to])] ++ lb) W fun e W' => e = .returned (.bool (p (atC l k))) ∧ Below W.heap.size W W') :
    Calls Try.prog 85 #[.slice a l.length cap, .func (.func g) #[] lb] w (IdxCPost l p w) := by
  have HI := Lib.hid hin; have HP := Lib.hid hp
  clear hin hp
  go_enter Try.func85, Try.ntmps85
  go_wp2_with fail
  go_loopw [8] (fun i wr => ∃ k : Nat, k ≤ l.length ∧ i = .int .i64 k ∧ (∀ j, j < k → p (atC l j) = false) ∧ Below w.heap.size w wr) (fun i _ => l.length - (intOf i).toNat)
  case atStart => exact ⟨0, Nat.zero_le _, rfl, fun j hj => absurd hj (Nat.not_lt_zero _), Below.refl _ _⟩
  case round =>
    obtain ⟨k, hk, rfl, hny, hb⟩ := hrel
    have HB := Lib.hid hb; have HN := Lib.hid hny; clear hny
    by_cases hlt : k < l.length
    · obtain ⟨b, off, rfl, hc⟩ := HI.out.below hb k hlt
      have HC := Lib.hid (HP.out k wr hlt hb)
      clear hb
      generalize hx : atC l k = x at *
      have HX := Lib.hid hx; clear hx
      obtain ⟨x0, x1, x2, x3, x4, x5⟩ := x
      obtain ⟨c0, c1, c2, c3, c4, c5⟩ := hc
      simp only at c0 c1 c2 c3 c4 c5
      have HC : Hid (Calls Try.prog g (#[.agg #[.int .i64 x0, .int .i64 x1, .int .i64 x2, .int .i64 x3, .int .u32 x4, .int .i64 x5]] ++ lb) wr fun e W' => e = .returned (.bool (p ⟨x0, x1, x2, x3, x4, x5⟩)) ∧ Below wr.heap.size wr W') := HC
      cases hpx : p ⟨x0, x1, x2, x3, x4, x5⟩
      · rw [hpx] at HC
        have HPX := Lib.hid hpx; clear hpx
        go_wp2_with (first | (go_at_fn g; refine HC.out.mono ?_; rintro e w2 ⟨rfl, hb2⟩))
        go_roundw
        case rel => exact ⟨k + 1, by omega, by go_num, fun j hj => by
          by_cases e : j = k
          · rw [e, HX.out]; exact HPX.out
          · exact HN.out j (by omega), HB.out.trans (hb2.mono HB.out.size)⟩
        case measure => simp [intOf]; omega
      · rw [hpx] at HC
        have HPX := Lib.hid hpx; clear hpx
        go_wp2_with (first | (go_at_fn g; refine HC.out.mono ?_; rintro e w2 ⟨rfl, hb2⟩))
        go_ret
        exact ⟨k, rfl, .inr ⟨k, hlt, rfl, by rw [HX.out]; exact HPX.out, HN.out⟩, HB.out.trans (hb2.mono HB.out.size)⟩
    · clear hb
      go_wp2_with fail
      go_ret
      exact ⟨-1, rfl, .inl ⟨rfl, fun j hj => HN.out j (by omega)⟩, HB.out⟩
theorem conC_any (g : Nat) (lb : Array Value) (eg : ∀ args w, (callFunc g args).run Try.prog w = .ok (.enter g args) w) (p : Cd → Bool) (l : List Cd) (a : Option Addr) (cap : Nat) (w : World) (hin : CdsIn w a l) (hl : (l.length : Int) ≤ 9223372036854775807)
    (hp : ∀ k W, k < l.length → Below w.heap.size w W → Calls Try.prog g (#[(.agg #[.int .i64 (atC l k).op, .int .i64 (atC l k).d, .int .i64 (atC l k).a, .int .i64 (atC l k).b, .int .u32 (atC l k).im, .int .i64 (atC l k).to])] ++ lb) W fun e W' => e = .returned (.bool (p (atC l k))) ∧ Below W.heap.size W W') :
    Calls Try.prog 46 #[.slice a l.length cap, .func (.func g) #[] lb] w fun e w' => e = .returned (.bool (l.any p)) ∧ Below w.heap.size w w' := by
  have HC := Lib.hid (idxC_any g lb eg p l a cap w hin hl hp)
  clear hin hp eg
  go_enter Try.func46, Try.ntmps46
  go_wp2_with (first | (go_at_call 85; refine HC.out.mono ?_; rintro e w2 ⟨r, rfl, hr, hb2⟩; have HR := Lib.hid hr.any; clear hr))
  go_ret
  exact ⟨ret_bool HR.out, hb2⟩
end Go.Proofs.Ytjfpaelmcepidaa.PK
