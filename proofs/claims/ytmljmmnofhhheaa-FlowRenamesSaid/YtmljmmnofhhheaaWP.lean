/- Walks of the document's visit and Order. -/
import Derived.Test.YtmljmmnofhhheaaWO
namespace Go.Proofs.Ytmljmmnofhhheaa
open Go.RowKit

/-- What lies in memory as the document visits. -/
structure RSt (W0 : World) (base q n : Nat) (w : World) (s : VSt) (lv : Value) : Prop where
  b0 : Below W0.heap.size W0 w
  sz : base ≤ w.heap.size
  row : BRow w q n s.1
  out : w.ownsRow base 3 1 lv s.2.length (encN s.2)
theorem RSt.mark {W0 w : World} {base q n : Nat} {s : VSt} {lv : Value} (h : RSt W0 base q n w s lv) (hq : W0.heap.size ≤ q) (hqb : q < base) (v : Nat) : RSt W0 base q n (w.setCell ⟨q, v, none⟩ (.bool true)) (mark s.1 v, s.2) lv :=
  ⟨h.b0.setCell hq _, by simpa [World.setCell] using h.sz, h.row.mark v, ownsRow_setCell_below h.out (a := ⟨q, v, none⟩) hqb _⟩

set_option maxRecDepth 100000 in
set_option maxHeartbeats 2000000 in
theorem rvisit_any (W0 : World) (base q qcap : Nat) (a : Option Addr) (cap : Nat) (g : Gr) (hg : GraphIn W0 a g) (ok : OkG g) (hq : W0.heap.size ≤ q) (hqb : q < base) (f : Nat) :
    ∀ (v : Nat) (s : VSt) (lv : Value) (w : World), cnt s.1 ≤ f → v < g.length → s.1 v = false → s.2.length + cnt s.1 ≤ 10 → RSt W0 base q g.length w s lv →
    Calls Try.prog 56 #[.slice a g.length cap, .int .i64 v, .slice (some ⟨q, 0, none⟩) g.length qcap, lv] w
      fun e w' => ∃ lv', e = .returned lv' ∧ RSt W0 base q g.length w' (ovis g f v s) lv' := by
  have hn := ok.ten
  induction f with
  | zero =>
    intro v s lv w hc hv hs
    have := cnt_pos (by omega) hs
    omega
  | succ f ih =>
    intro v s lv w hc hv hs hlen C
    have hv10 : v < 10 := by omega
    have hvi : (v : Int) < (g.length : Int) := by omega
    have hn' : (g.length : Int) ≤ 10 := by omega
    have hcm := cnt_mark hv10 hs
    have c2 := C.row.cell hv
    have f1 := C.row.free v
    rw [hs] at c2
    have C1 := C.mark hq hqb v
    obtain ⟨gb, goff, a', cap', rfl, hcell0, hrow0⟩ := hg v hv
    have HC1 := Lib.hid C1
    have HL1 := Lib.hid (fun k hk => (less_ovis ok f v s hv hs).2 k hk)
    have IH := Lib.hid ih; have HRow := Lib.hid hrow0; have HC0 := Lib.hid hcell0
    have hdg := ok.deg v
    have HFit := Lib.hid ok.fits
    have HOs := Lib.hid (ovis_succ g f v s)
    have H0 := Lib.hid (olist_zero g f v s)
    have HNx : Hid (∀ k, k < (succ g v).length → olist g f v (k + 1) s = ostep g f (olist g f v k s) ((succ g v).getD k 0)) := Lib.hid fun k hk => olist_next hk
    clear ih hcell0 hrow0 C1 C hg hs
    obtain ⟨i0, hi, hz0, hz1, hz2⟩ := info_parts Try.infoInt
    go_enter Try.func56, Try.ntmps56
    go_wp2_with fail
    go_loopw [3, 9] (fun lv i wr => ∃ k : Nat, k ≤ (succ g v).length ∧ i = .int .i64 k ∧ RSt W0 base q g.length wr (olist g f v k s) lv) (fun _ i _ => (succ g v).length - (intOf i).toNat)
    case atStart => exact ⟨0, Nat.zero_le _, rfl, by rw [H0.out]; exact HC1.out⟩
    case round =>
      obtain ⟨k, hk, rfl, hC⟩ := hrel
      have hls := HL1.out k hk
      have hl2 : (olist g f v k s).2.length + cnt (olist g f v k s).1 ≤ s.2.length + cnt (Proofs.Ytmljmmnofhhheaa.mark s.1 v) := hls.len
      have hcn : cnt (olist g f v k s).1 ≤ cnt (Proofs.Ytmljmmnofhhheaa.mark s.1 v) := cnt_le hls.sub
      have hcg := keep HC0.out hC.b0
      clear hls
      by_cases hlt : k < (succ g v).length
      · obtain ⟨b2, off2, rfl, hx2⟩ := HRow.out.below hC.b0 k hlt
        have hxl := HFit.out v _ (getD_mem hlt)
        have hnx := HNx.out k hlt
        have hIH := fun lv => IH.out ((succ g v).getD k 0) (olist g f v k s) lv wr
        generalize olist g f v k s = t at *
        have HIH := Lib.hid hIH; have HNx1 := Lib.hid hnx
        clear hIH hnx
        generalize (succ g v).getD k 0 = x at *
        have hcx := hC.row.cell hxl
        have hxi : (x : Int) < (g.length : Int) := by omega
        cases hsx : t.1 x
        · rw [hsx] at hcx
          have HCall := Lib.hid (HIH.out _ (by omega) hxl hsx (by omega) hC)
          have HE : Hid (ostep g f t x = ovis g f x t) := Lib.hid (by unfold ostep; rw [hsx]; rfl)
          clear hC hsx
          go_wp2_with (first | (go_at_call 56; refine HCall.out.mono ?_; rintro e w2 ⟨lv2, rfl, hC2⟩))
          go_roundw
          case rel => exact ⟨k + 1, by omega, by go_num, by rw [HNx1.out, HE.out]; exact hC2⟩
          case measure => simp [intOf]; omega
        · rw [hsx] at hcx
          have HE : Hid (ostep g f t x = t) := Lib.hid (by unfold ostep; rw [hsx]; rfl)
          have HC2 := Lib.hid hC
          clear hC hsx
          go_wp2_with fail
          go_roundw
          case rel => exact ⟨k + 1, by omega, by go_num, by rw [HNx1.out, HE.out]; exact HC2.out⟩
          case measure => simp [intOf]; omega
      · obtain rfl : k = (succ g v).length := by omega
        generalize olist g f v (succ g v).length s = t at *
        have hlen2 : t.2.length ≤ 10 := by omega
        have HO := Lib.hid hC.out; have HCC := Lib.hid hC
        have hszr := hC.sz
        clear hC
        go_wp2_with (at_builtin; refine wpList_append_own _ rfl _ _ 32 rfl base 3 i0 (.int .i64 0) 1 8 Try.underlying32 hi hz0 hz1 hz2 rfl (by decide) _ _ _ rfl (HO.out.alloc _) ⟨wr.heap.size, 0, none⟩ 1 1 [.int .i64 v] rfl rfl (cell_one_new _ _ _) one_int (by unfold maxLen; omega) (by omega) (by simp; omega) ?_; intro v' w4 hown' hgrow _)
        have hb1 := (HCC.out.b0.alloc HCC.out.b0.size _).grown hgrow (by have := HCC.out.b0.size; simp; omega) (fun k hk => by have := (HO.out.lt k hk).1; omega)
        have hrw := (HCC.out.row.alloc (.cells #[.int .i64 (v : Int)] 3)).grown hgrow (fun k hk => by have := (HO.out.lt k hk).1; omega)
        have hsz4 : base ≤ w4.heap.size := by
          have h1 := hgrow.size
          have h2 : (wr.alloc (.cells #[.int .i64 (v : Int)] 3)).heap.size = wr.heap.size + 1 := by simp
          omega
        rw [← encN_snoc, snoc_len _ v] at hown'
        have HO4 := Lib.hid hown'; have HB4 := Lib.hid hb1; have HR4 := Lib.hid hrw
        clear hown' hb1 hrw hgrow
        go_wp2_with fail
        go_ret
        exact ⟨_, rfl, by rw [HOs.out]; exact ⟨HB4.out, hsz4, HR4.out, HO4.out⟩⟩

theorem take_snoc {xs : List Nat} {k : Nat} (h : k < xs.length) : xs.take (k + 1) = xs.take k ++ [xs.getD k 0] := by
  rw [List.take_succ_eq_append_getElem h]
  simp [List.getD_eq_getElem?_getD, List.getElem?_eq_getElem h]
theorem rev_getD {xs : List Nat} {k : Nat} (h : k < xs.length) : xs.reverse.getD k 0 = xs.getD (xs.length - 1 - k) 0 := by
  rw [List.getD_eq_getElem?_getD, List.getD_eq_getElem?_getD, List.getElem?_reverse h]

set_option maxRecDepth 100000 in
set_option maxHeartbeats 2000000 in
theorem rOrder_any (g0 : List (List Int)) (a : Option Addr) (cap : Nat) (w : World) (hin : RowsIn w a g0) (hs : Short g0) :
    Calls Try.prog 19 #[.slice a g0.length cap] w (ListPost (validE g0) (orderR g0) w) := by
  have HV := Lib.hid (rValidate_any g0 a cap _ hin hs)
  by_cases hv : validE g0 = 0
  · have hn : orderR g0 = (leftL (gN g0)).reverse := by unfold orderR orderL; rw [if_pos hv]
    have ok := valid_ok hv
    have hg := hin.graph hv
    have hlen : g0.length = (gN g0).length := by rw [gN_len]
    have hl10 := leftL_len ok
    rw [hn]; rw [hv] at HV; rw [hv]
    rw [hlen] at HV; rw [hlen]
    clear hin hs hv hn hlen
    generalize gN g0 = g at *
    have h10 := ok.ten
    have hmk := run_make_row' (P := Try.prog) 59 4 (.bool false) 1 Try.underlying59 Try.infoBool rfl .i64 .i64 g.length (by omega) (by omega)
    have hst : RSt w (w.heap.size + 1) w.heap.size g.length (w.alloc (.cells (madeCells #[.bool false] g.length) 4)) (fun _ => false, []) (.slice none 0 0) := by
      refine ⟨(Below.refl _ _).alloc (Nat.le_refl _) _, by simp, ?_, World.ownsRow_nil _ _ _ _⟩
      rw [boolArr_made]
      exact heap_at _ _ _ rfl
    have HVis := Lib.hid (rvisit_any w (w.heap.size + 1) w.heap.size g.length a cap g hg ok (Nat.le_refl _) (by omega) 10 0 (fun _ => false, []) _ _ (cnt_ten _) ok.pos rfl (by have := cnt_ten (fun _ => false); simpa using this) hst)
    obtain ⟨i0, hi, hz0, hz1, hz2⟩ := info_parts Try.infoInt
    clear hst hg
    generalize hXS : leftL g = xs at *
    have HXS : Hid ((ovis g 10 0 (fun _ => false, [])).2 = xs) := Lib.hid hXS
    clear hXS
    go_enter Try.func19, Try.ntmps19
    go_wp2_with fail
    refine HV.out.mono ?_; rintro e w0 ⟨rfl, rfl⟩
    go_wp2_with fail
    refine HVis.out.mono ?_; rintro e w2 ⟨lv, rfl, hO⟩
    have HB2 := Lib.hid hO.b0
    have ho := hO.out
    rw [HXS.out] at ho
    obtain ⟨la, lcap, rfl⟩ := owns_form ho
    have HN := Lib.hid (owns_bound ho)
    clear hO ho
    go_wp2_with fail
    go_loopw [6, 7] (fun tv i wr => ∃ (k : Nat) (j : Int), k ≤ xs.length ∧ i = .int .i64 j ∧ j = xs.length - 1 - k ∧ wr.ownsRow w2.heap.size 3 1 tv (xs.reverse.take k).length (encN (xs.reverse.take k)) ∧ Below w2.heap.size w2 wr) (fun _ i _ => (intOf i + 1).toNat)
    case atStart => exact ⟨0, _, Nat.zero_le _, rfl, by go_num, World.ownsRow_nil _ _ _ _, Below.refl _ _⟩
    case round =>
      obtain ⟨k, jj, hk, rfl, hjj, hown, hbl⟩ := hrel
      by_cases hlt : k < xs.length
      · obtain ⟨j, rfl⟩ := Int.eq_ofNat_of_zero_le (show 0 ≤ jj by omega)
        obtain ⟨b, off, rfl, hx⟩ := HN.out.below hbl j (by omega)
        have hsn := take_snoc (xs := xs.reverse) (k := k) (by simpa using hlt)
        rw [rev_getD hlt, show xs.length - 1 - k = j by omega] at hsn
        have HSn := Lib.hid hsn; have HBl := Lib.hid hbl
        have hjl : (j : Int) < (xs.length : Int) := by omega
        have hrl : (xs.reverse.take k).length ≤ 10 := by simp; omega
        have HJ : Hid (xs.length = k + 1 + j) := Lib.hid (by omega)
        clear hsn hbl hjj
        generalize xs.reverse.take k = R at *
        generalize xs.getD j 0 = x at *
        go_wp2_with (at_builtin; refine wpList_append_own _ rfl _ _ 32 rfl w2.heap.size 3 i0 (.int .i64 0) 1 8 Try.underlying32 hi hz0 hz1 hz2 rfl (by decide) _ _ _ rfl (hown.alloc _) ⟨wr.heap.size, 0, none⟩ 1 1 [.int .i64 x] rfl rfl (cell_one_new _ _ _) one_int (by unfold maxLen; omega) (by omega) (by have := HBl.out.size; simp; omega) ?_; intro v' w4 hown' hgrow _)
        have hb1 := (HBl.out.alloc HBl.out.size _).grown hgrow (by have := HBl.out.size; simp; omega) (fun k hk => (hown.lt k hk).1)
        have HO4 := Lib.hid hown'; have HB4 := Lib.hid hb1
        clear hown hown' hgrow hb1
        go_wp2_with fail
        go_roundw
        case rel => exact ⟨k + 1, (j : Int) - 1, by omega, by go_num, by have := HJ.out; omega, by rw [HSn.out, encN_snoc, List.length_append]; exact HO4.out, HB4.out⟩
        case measure => simp [intOf]
      · obtain rfl : k = xs.length := by omega
        obtain rfl : jj = -1 := by omega
        have hfull : xs.reverse.take xs.length = xs.reverse := List.take_of_length_le (by simp)
        rw [hfull] at hown
        have HO := Lib.hid hown; have HBl := Lib.hid hbl
        clear hown hbl hfull
        go_wp2_with fail
        go_ret2
        exact ⟨_, rfl, natSl_of_owns HO.out, HB2.out.trans (HBl.out.mono HB2.out.size)⟩
  · have hn : orderR g0 = [] := by unfold orderR; rw [if_neg hv]
    rw [hn]
    generalize validE g0 = V at *
    have hvb : (V != 0) = true := by simpa using hv
    clear hv hn
    go_enter Try.func19, Try.ntmps19
    go_wp2_with fail
    refine HV.out.mono ?_; rintro e w1 ⟨rfl, rfl⟩
    go_wp2_with fail
    go_ret2
    exact ⟨_, rfl, NatSl.nil _, Below.refl _ _⟩
end Go.Proofs.Ytmljmmnofhhheaa
