/- slices.Values of a list of numbers as an iterator; slices.AppendSeq, Collect and Sorted over it. -/
import Derived.RangeFuncBox
import Derived.RangeFuncNested
import Derived.RangeFuncBound
import Derived.RangeFuncCalls
import Derived.RangeFuncLeaves
import Derived.Shelf.Abstract
import Derived.Shelf.RegionOpen
import Derived.WalkKit
import Derived.OwnWalkIn
import Derived.TacticsInMore
import Derived.LoopNIn
import Derived.LoopIn
import Derived.Maps.AppendAt
import Derived.Test.YtccpjfppkahbmaaKU
namespace Go.Proofs.Ytccpjfppkahbmaa.PK
open Go.RowKit Go.Shelf

attribute [local go_sem] Oper.semAt_some

theorem takeI_succ {zs : List Int} {k : Nat} (h : k < zs.length) : zs.take (k + 1) = zs.take k ++ [zs.getD k 0] := by
  rw [List.take_succ_eq_append_getElem h, List.getD_eq_getElem?_getD, List.getElem?_eq_getElem h]; rfl
set_option maxRecDepth 100000 in
set_option maxHeartbeats 2000000 in
theorem values1_in (F : Fence) (n : Nat) (hF : F.fn 108) (hro : F.round = none) (hn : 1 ≤ n) (l Bs : Nat) (a : Option Addr) (cap : Nat) (zs : List Int) (hreach : zs.length * 8 ≤ 140737488351232) (w0 : World) (hI : IntsIn w0 a zs) (J Jx : List Int → World → Prop)
    (hY : ∀ pre x W, J pre W → pre.length < zs.length → YieldAt F (n - 1) Try.prog l #[.int .i64 x] W fun e W' =>
      (e = .returned (.bool true) ∧ J (pre ++ [x]) W' ∧ Below w0.heap.size W W') ∨ (e = .returned (.bool false) ∧ Jx (pre ++ [x]) W'))
    (W : World) (hb0 : Below w0.heap.size w0 W) (hBs : W.cell? ⟨Bs, 0, none⟩ = some (.slice a zs.length cap)) (h0 : J [] W) :
    CallsIn F n Try.prog 108 #[.func (.yield l) #[] #[], .pointer (some ⟨Bs, 0, none⟩)] W fun e W' => (∃ v, e = .returned v) ∧
      ((∃ ys, ys = zs ∧ J ys W') ∨ (∃ pre, pre <+: zs ∧ Jx pre W')) := by
  refine callsIn_of_wp Try.func108 rfl hF ?_ hro
  simp only [Try.ntmps108, List.size_toArray, List.length_cons, List.length_nil, Nat.reduceAdd, Nat.reduceSub, Array.replicate_succ, Array.replicate_zero, List.push_toArray, List.append_toArray, List.nil_append, List.cons_append]
  gi_wp2
  gi_loopw [7] (fun i wr => ∃ k : Nat, k ≤ zs.length ∧ i = .int .i64 k ∧ J (zs.take k) wr ∧ Below w0.heap.size W wr)
    (fun i _ => zs.length - (intOf i).toNat)
  case atStart => exact ⟨0, Nat.zero_le _, rfl, by simpa using h0, Below.refl _ _⟩
  case round =>
    obtain ⟨k, hk, rfl, hJs, hnx⟩ := hrel
    by_cases hlt : k < zs.length
    · have hts := takeI_succ hlt
      obtain ⟨b, off, rfl, hc⟩ := hI.below (hb0.trans hnx) k hlt
      obtain ⟨x, hx⟩ : ∃ x, zs.getD k 0 = x := ⟨_, rfl⟩
      rw [hx] at hc hts
      obtain ⟨fn, tmps, assign, body, hy, hR⟩ := hY _ x wr hJs (by rw [List.length_take]; omega)
      clear hx
      gi_wp2
      refine hR.mono ?_
      rintro e W3 (⟨rfl, hJ3, hk3⟩ | ⟨rfl, hJx3⟩)
      · gi_wp2
        go_roundw
        case rel => exact ⟨k + 1, by omega, by simp, by rw [hts]; exact hJ3, hnx.trans hk3⟩
        case measure => simp [intOf]; omega
      · gi_wp2
        refine bodyPost_ret (results_none rfl _ _ _) rfl ?_
        exact ⟨⟨_, rfl⟩, .inr ⟨_, by rw [← hts]; exact List.take_prefix _ _, hJx3⟩⟩
    · obtain rfl : k = zs.length := by omega
      rw [List.take_length] at hJs
      gi_wp2
      go_end0
      exact ⟨⟨_, rfl⟩, .inl ⟨_, rfl, hJs⟩⟩
theorem values_stops (F : Fence) (n : Nat) (hF : F.fn 108) (hro : F.round = none) (hn : 1 ≤ n) (Bs : Nat) (a : Option Addr) (cap : Nat) (zs : List Int) (hreach : zs.length * 8 ≤ 140737488351232) (w0 w : World) (hb0 : Below w0.heap.size w0 w) (hI : IntsIn w0 a zs) (hBs : Bs < w.heap.size)
    (hc : w.cell? ⟨Bs, 0, none⟩ = some (.slice a zs.length cap)) :
    SeqStopsK F n Try.prog 108 #[.pointer (some ⟨Bs, 0, none⟩)] (fun x : Int => #[Value.int .i64 x]) (Below w0.heap.size) (fun ys => ys = zs) (fun pre => pre <+: zs) zs.length w := fun l J Jx W hW _ _ hY h0 =>
  values1_in F n hF hro hn l Bs a cap zs hreach w0 hI J Jx hY W (hb0.trans (hW.mono hb0.size)) ((hW.cell (p := ⟨Bs, 0, none⟩) hBs).trans hc) h0
theorem values_any (a : Option Addr) (len cap : Nat) (w : World) :
    Calls Try.prog 79 #[.slice a len cap] w fun e w' => e = .returned (.func (.func 108) #[] #[.pointer (some ⟨w.heap.size, 0, none⟩)]) ∧ w' = w.alloc (.cells #[.slice a len cap] 25) := by
  go_enter Try.func79, Try.ntmps79
  go_wp2_with fail
  go_ret
  exact ⟨rfl, rfl⟩
set_option maxRecDepth 100000 in
set_option maxHeartbeats 2000000 in
theorem appendSeq_in (F : Fence) (n : Nat) (h3 : F.fn 128) (h4 : F.fn 108) (hro : F.round = none) (hn : 3 ≤ n) (Bs : Nat) (a : Option Addr) (cap : Nat) (zs : List Int) (hlen : zs.length ≤ 100000) (w : World) (hI : IntsIn w a zs) (hc : w.cell? ⟨Bs, 0, none⟩ = some (.slice a zs.length cap)) :
    CallsIn F n Try.prog 128 #[.slice none 0 0, .func (.func 108) #[] #[.pointer (some ⟨Bs, 0, none⟩)]] w fun e W' => ∃ v, e = .returned v ∧ W'.ownsRow w.heap.size 3 1 v zs.length (encI zs) ∧ Below w.heap.size w W' := by
  have h1 : 1 ≤ n := by omega
  have hBs : Bs < w.heap.size := block_lt_of_cell hc
  obtain ⟨i0, hi, hz0, hz1, hz2⟩ := info_parts Try.infoInt
  have hml : zs.length ≤ maxLen := by unfold maxLen; omega
  refine callsIn_of_wp_marks Try.func128 rfl h3 ?_ hro
  simp only [Try.ntmps128, List.size_toArray, List.length_cons, List.length_nil, Nat.reduceAdd, Nat.reduceSub, Array.replicate_succ, Array.replicate_zero, List.push_toArray, List.append_toArray, List.nil_append, List.cons_append]
  gi_wp2
  have bO := Boxed.new w 25 (.slice none 0 0)
  have hB0 : Below w.heap.size w (w.alloc (.cells #[.slice none 0 0] 25)) := (Below.refl _ w).alloc (Nat.le_refl _) _
  refine wpIn_rangeFunc_ownG hro h1 (gf := 108) (lb := #[.pointer (some ⟨Bs, 0, none⟩)]) rfl h4 (enters_of Try.func108 (by kernel_rfl) rfl)
    (values_stops F (n - 1) h4 hro (by omega) Bs a cap zs (by omega) w _ hB0 hI (by simp; omega) (by rw [World.cell?_alloc_lt _ _ _ (by exact hBs)]; exact hc)) belowK_t (belowK_b (by simp)) (Below.refl _ _) (fun _ => rfl)
    (fun pre W => (∃ v, Boxed W w.heap.size 25 v ∧ W.ownsRow w.heap.size 3 1 v pre.length (encI pre) ∧ True) ∧ Below w.heap.size w W)
    (fun _ _ _ => False)
    (OwnFrom.and (Own.from (holdsRow_own w.heap.size w.heap.size 25 3 1 (fun pre => pre.length) (fun pre => encI pre) (fun _ _ => True)) _) (ownFrom_below (Nat.le_refl _) (by simp)))
    (fun _ _ _ _ _ hs _ _ => hs)
    ⟨⟨_, bO, World.ownsRow_nil _ _ _ _, trivial⟩, hB0⟩
    (fun x => { tmps := #[.slice none 0 0, .func (.func 108) #[] #[.pointer (some ⟨Bs, 0, none⟩)], .pointer (some ⟨w.heap.size, 0, none⟩), undef, .slice none 0 0, .int .i64 x, .func (.func 108) #[] #[.pointer (some ⟨Bs, 0, none⟩)], .int .i64 x, undef, undef, undef, undef, undef], defers := [] }) ?assign ?body ?done ?stop
  case assign =>
    intro l x W K hK
    gi_wp2
    exact hK
  case body =>
    rintro l pre x W ⟨⟨v, hv, hrow, _⟩, hB⟩ hlt
    have hc := hv.cell
    have hsn := encI_snoc pre x
    gi_wp2_with (gi_at_builtin; refine wpListIn_append_own _ rfl _ _ 25 rfl w.heap.size 3 i0 (.int .i64 0) 1 8 Try.underlying25 hi hz0 hz1 hz2 rfl (by decide) _ _ _ rfl (hrow.alloc _) ⟨W.heap.size, 0, none⟩ 1 1 [.int .i64 x] rfl rfl (cell_one_new _ _ _) (by simp [Value.oneCell']) (by omega) (by omega) (by have := hB.size; simp; omega) ?_; intro v' w1 hown' hgrow _; obtain ⟨g', cap', rfl⟩ := ownsRow_succ hown'; obtain ⟨hv1, hv2, hr2, hk2, hb2⟩ := hv.appended (by decide) hrow hB.size (Nat.le_refl _) hown' hgrow; have hc1 := hv1.cell; have hf1 := hv1.frozen)
    exact ⟨hk2.from _, hb2, ⟨_, hv2, by rw [hsn, List.length_append]; exact hr2, trivial⟩, hB.trans hb2⟩
  case done =>
    rintro D ys W hD rfl ⟨⟨v, hv, hrow, _⟩, hB⟩ hK
    have hc := hv.cell
    gi_wp2
    refine ⟨by simp, .inl ⟨_, _, rfl, run_takeDeferred hK, ?_⟩⟩
    exact ⟨_, results_tmp rfl _ _ _, v, rfl, ownsRow_putObj hrow _ hK rfl, hB.trans (belowK_b (w := w) (Nat.le_refl _) W D _ _ (by simp at hD; omega) hK rfl rfl)⟩
  case stop =>
    rintro D c pre W _ _ h _
    exact h.elim
theorem appendSeq_any (Bs : Nat) (a : Option Addr) (cap : Nat) (zs : List Int) (hlen : zs.length ≤ 100000) (w : World) (hI : IntsIn w a zs) (hc : w.cell? ⟨Bs, 0, none⟩ = some (.slice a zs.length cap)) :
    Calls Try.prog 128 #[.slice none 0 0, .func (.func 108) #[] #[.pointer (some ⟨Bs, 0, none⟩)]] w fun e W' => ∃ v, e = .returned v ∧ W'.ownsRow w.heap.size 3 1 v zs.length (encI zs) ∧ Below w.heap.size w W' :=
  callsIn_wide.1 (appendSeq_in Fence.wide 3 trivial trivial rfl (Nat.le_refl _) Bs a cap zs hlen w hI hc)
theorem collect_any (Bs : Nat) (a : Option Addr) (cap : Nat) (zs : List Int) (hlen : zs.length ≤ 100000) (w : World) (hI : IntsIn w a zs) (hc : w.cell? ⟨Bs, 0, none⟩ = some (.slice a zs.length cap)) :
    Calls Try.prog 106 #[.func (.func 108) #[] #[.pointer (some ⟨Bs, 0, none⟩)]] w fun e W' => ∃ v, e = .returned v ∧ W'.ownsRow w.heap.size 3 1 v zs.length (encI zs) ∧ Below w.heap.size w W' := by
  have HC := Lib.hid (appendSeq_any Bs a cap zs hlen w hI hc)
  clear hI hc
  go_enter Try.func106, Try.ntmps106
  go_wp2_with fail
  refine HC.out.mono ?_; rintro e w2 ⟨v, rfl, ho, hb⟩
  have HO := Lib.hid ho; have HB := Lib.hid hb
  clear ho hb
  go_wp2_with fail
  go_ret
  exact ⟨_, rfl, HO.out, HB.out⟩
def sortI (zs : List Int) : List Int := zs.mergeSort fun x y => decide (x ≤ y)
theorem sortI_len (zs : List Int) : (sortI zs).length = zs.length := List.length_mergeSort _
theorem sorted_any (Bs : Nat) (a : Option Addr) (cap : Nat) (zs : List Int) (hlen : zs.length ≤ 100000) (w : World) (hI : IntsIn w a zs) (hc : w.cell? ⟨Bs, 0, none⟩ = some (.slice a zs.length cap)) :
    Calls Try.prog 78 #[.func (.func 108) #[] #[.pointer (some ⟨Bs, 0, none⟩)]] w fun e W' => ∃ v, e = .returned v ∧ W'.ownsRow w.heap.size 3 1 v zs.length (encI (sortI zs)) ∧ Below w.heap.size w W' := by
  have HC := Lib.hid (collect_any Bs a cap zs hlen w hI hc)
  clear hI hc
  go_enter Try.func78, Try.ntmps78
  go_wp2_with fail
  refine HC.out.mono ?_; rintro e w2 ⟨v, rfl, ho, hb⟩
  have HO := Lib.hid ho; have HB := Lib.hid hb
  have HS := Lib.hid (sortI_any zs ho hlen)
  have HG := Lib.hid (fun g hg => owns_block HO.out (g := g) hg)
  obtain ⟨va, vc, rfl⟩ := owns_shape ho
  clear ho hb
  go_wp2_with fail
  refine HS.out.mono ?_; rintro e w3 ⟨rfl, ho3, hg3⟩
  have HO3 := Lib.hid ho3
  have HB3 := Lib.hid (HB.out.grown hg3 HB.out.size (fun g hg => (HG.out g hg).1))
  clear ho3 hg3
  go_wp2_with fail
  go_ret
  exact ⟨_, rfl, HO3.out, HB3.out⟩
end Go.Proofs.Ytccpjfppkahbmaa.PK
