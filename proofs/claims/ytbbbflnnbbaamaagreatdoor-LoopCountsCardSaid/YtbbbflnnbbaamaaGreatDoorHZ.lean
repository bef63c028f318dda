/- Packed of several texts. -/
import Derived.Test.YtbbbflnnbbaamaaGreatDoorH52
import Derived.WalkKit
import Derived.ProofKit
import Derived.OpenShut
import Derived.Lib.SmallJoins
import Derived.Deep.Fields
import Derived.Carry
import Derived.Test.YtbbbflnnbbaamaaGreatDoorCards
import Derived.Test.YtbbbflnnbbaamaaGreatDoorTie
import Derived.Deep.DeepHandedRow
import Derived.Lib.LaidTab
namespace Go.Proofs.YtbbbflnnbbaamaaGreatDoor.PK
open Go.RowKit Mini

theorem xK_is {n : Int} {s t : Nat} (hs : (s : Int) < 2 ^ n.toNat) : ∀ k : Nat, xK n s t k = afterV n s t k
 | 0 => by
  show (s : Int) = ((s : Int) + ((0 : Nat) : Int) * t) % 2 ^ n.toNat
  rw [Int.emod_eq_of_lt (by simp) (by simpa using hs)]
  simp
 | k + 1 => by
  show (xK n s t k + t) % 2 ^ n.toNat = ((s : Int) + ((k + 1 : Nat) : Int) * t) % 2 ^ n.toNat
  rw [xK_is hs k]
  show (((s : Int) + (k : Int) * t) % 2 ^ n.toNat + t) % 2 ^ n.toNat = _
  rw [Int.emod_add_emod]
  congr 1
  rw [show ((k + 1 : Nat) : Int) = (k : Int) + 1 by omega, Int.add_mul, Int.one_mul]
  omega
theorem blksP_get (bk : Nat → Nat) {k n : Nat} (h : k < n) : (blksP bk n).getD k 0 = ((bk k : Nat) : Int) := by simp [blksP, List.getD_eq_getElem?_getD, h]
theorem goes_is {p : Nat} {n : Int} {s t b : Nat} (h : W0 p n s t b) (k : Nat) : cmpW p n (xK n s t k) b = goesB p n s t b k := by
 rw [xK_is h.ints.1]; rfl
theorem path_of {p : Nat} {n : Int} {s t b : Nat} {r : Int} (h : W0 p n s t b) (hs : TripsSpec p n s t b r true) (hr : r < 20) :
  Path (F0 p n s t b) (2 * r.toNat + 3) (bP r.toNat) (fP r.toNat) (lP p n s t b r.toNat) (sP r.toNat) := by
 rcases hs with ⟨_, h0, _, h1, h2⟩ | ⟨h0, _⟩
 ·refine path0 h r.toNat (by omega) (fun k hk => ?_) ?_
  ·rw [goes_is h]
   rcases hb : goesB p n s t b k with _ | _
   ·have := h2 k (by omega) hb
    omega
   ·rfl
  ·rw [goes_is h, Int.toNat_of_nonneg h0]
   exact h1
 ·cases h0
set_option maxRecDepth 100000 in
set_option maxHeartbeats 4000000 in
theorem loopCounts_any (p n s t b : Int) (w : World) (hT : Tab w) (hu : WordsU32 [s, t, b]) :
  Calls Tryz.prog 3 #[.agg #[.int .i64 p, .int .i64 n, .int .u32 s, .int .u32 t, .int .u32 b]] w fun e w' => e = .returned (.bool true) ∧ Below w.heap.size w w' := by
 have hal : Below w.heap.size w (w.alloc (.cells #[.int .i64 p, .int .i64 n, .int .u32 s, .int .u32 t, .int .u32 b] 24)) := (Below.refl _ _).alloc (Nat.le_refl _) _
 have hr0 : (w.alloc (.cells #[.int .i64 p, .int .i64 n, .int .u32 s, .int .u32 t, .int .u32 b] 24)).heap[w.heap.size]? = some (.cells #[.int .i64 p, .int .i64 n, .int .u32 s, .int .u32 t, .int .u32 b] 24 (0, 0)) := heap_alloc_new _ _
 have x0 := cell_of_row _ _ 0 _ _ _ hr0; have x1 := cell_of_row _ _ 1 _ _ _ hr0; have x2 := cell_of_row _ _ 2 _ _ _ hr0; have x3 := cell_of_row _ _ 3 _ _ _ hr0; have x4 := cell_of_row _ _ 4 _ _ _ hr0
 have HX1 := Lib.hid hr0; have HB1 := Lib.hid hal
 have HK := Lib.hid (fun u (hu : Below w.heap.size w u) => known_any u (hT.below hu))
 have HCt := Lib.hid (fun u => rCounted_any p n s t b u hu)
 have q0 : ((0 : Int) != 0) = false := rfl
 have q1 : ((1 : Int) != 0) = true := rfl
 clear hal hr0
 by_cases hc : cntB p n s t b = true
 rotate_left
 ·have hcf : cntB p n s t b = false := by simpa using hc
  rw [eI_f hcf] at HCt
  clear hc hcf hT hu
  go_enter Tryz.func3, Tryz.ntmps3
  go_upto_region 1 with fail
  generalize (w.alloc _) = w1 at *
  have hz1 := HB1.out.size
  go_wp2_with fail
  refine (HCt.out w1).mono ?_; rintro e w2 ⟨rfl, hb2⟩
  have HB2 := Lib.hid (HB1.out.trans (hb2.mono hz1))
  clear x0 x1 x2 x3 x4 hb2
  go_wp2_with fail
  refine (HK.out w2 HB2.out).mono ?_; rintro e w3 ⟨rfl, hb3⟩
  have HB3 := Lib.hid (HB2.out.trans (hb3.mono HB2.out.size))
  clear hb3
  go_wp2_with fail
  go_ret
  exact ⟨rfl, HB3.out⟩
 rw [eI_t hc] at HCt
 obtain ⟨hcb, p0, p9⟩ := cntB_iff.1 hc
 obtain ⟨⟨n1, n2⟩, hs1, ht1, hb1⟩ := cB3 hcb
 have hs0 : 0 ≤ s := (hu 0 (by simp)).1
 have ht0 : 0 ≤ t := (hu 1 (by simp)).1
 have hb0 : 0 ≤ b := (hu 2 (by simp)).1
 obtain ⟨p, rfl⟩ := Int.eq_ofNat_of_zero_le p0
 obtain ⟨s, rfl⟩ := Int.eq_ofNat_of_zero_le hs0
 obtain ⟨t, rfl⟩ := Int.eq_ofNat_of_zero_le ht0
 obtain ⟨b, rfl⟩ := Int.eq_ofNat_of_zero_le hb0
 have hpw : ((2 ^ n.toNat : Nat) : Int) = (2 : Int) ^ n.toNat := by simp
 have hW : W0 p n s t b := ⟨by omega, n1, n2, by omega, by omega, by omega⟩
 obtain ⟨r, ok, hs⟩ := trips_exists (p : Int) n s t b n2 ht0 (by unfold mx; omega)
 have HCu := Lib.hid (fun u => counted_any p n s t b u hW.p9)
 have HCd := Lib.hid (fun B b0 ex hex u hm => Counted_E hW r ok hs B b0 ex hex u hm)
 have HTr := Lib.hid (fun u => Trips_ok p n s t b r ok u hc hs0 ht0 hb0 hs)
 have HW := Lib.hid hW; have HS := Lib.hid hs
 clear hc hT hu hcb p0 p9 hs1 ht1 hb1 hs0 ht0 hb0 hpw hs hW
 simp only [funW] at HCu HCd
 go_enter Tryz.func3, Tryz.ntmps3
 go_upto_region 1 with fail
 generalize (w.alloc _) = w1 at *
 have hz1 := HB1.out.size
 go_wp2_with fail
 refine (HCt.out w1).mono ?_; rintro e w2 ⟨rfl, hb2⟩
 have HB2 := Lib.hid (HB1.out.trans (hb2.mono hz1)); have HX2 := Lib.hid (row_below HX1.out hb2)
 clear x0 x1 x2 x3 x4 hb2
 have x0 := cell_of_row _ _ 0 _ _ _ HX2.out; have x1 := cell_of_row _ _ 1 _ _ _ HX2.out; have x2 := cell_of_row _ _ 2 _ _ _ HX2.out; have x3 := cell_of_row _ _ 3 _ _ _ HX2.out; have x4 := cell_of_row _ _ 4 _ _ _ HX2.out
 go_wp2_with fail
 refine (HCu.out w2).mono ?_; rintro e w3 ⟨rfl, hm3, hb3⟩
 have hz2 := HB2.out.size
 have hM3 : MemE w.heap.size (w2.heap.size + 2) w3 p n s t b [⟨w.heap.size, 24, 5, [iv p, iv n, uv s, uv t, uv b]⟩] := by
  refine ⟨hm3, fun e he => ?_, fun e he => ?_, by omega, fun e he => ?_, fun e he => ?_, fun i j e e' hi hj _ => ?_, by show 1 ≤ 4; decide⟩
  ·obtain rfl := List.mem_singleton.1 he
   exact rowAt_rnds (row_below HX2.out hb3) (.cons (.v _) (.cons (.v _) (.cons (.v _) (.cons (.v _) (.cons (.v _) .nil))))) rfl (by show 5 ≤ far; decide)
  ·obtain rfl := List.mem_singleton.1 he
   rfl
  ·obtain rfl := List.mem_singleton.1 he
   exact Nat.le_refl _
  ·obtain rfl := List.mem_singleton.1 he
   have := lt_of_block HX2.out
   exact .inl (by show w.heap.size < w2.heap.size + 2; omega)
  ·match i, j, hi, hj with
   | 0, 0, _, _ => rfl
   | 0, j + 1, _, hj => cases hj
   | i + 1, _, hi, _ => cases hi
 have HB3 := Lib.hid (HB2.out.trans (hb3.mono hz2))
 have HM3 := Lib.hid hM3
 clear x0 x1 x2 x3 x4 hm3 hb3 hM3
 generalize w2.heap.size + 2 = b0 at *
 have hz3 := HB3.out.size
 have hal4 : Below w3.heap.size w3 (w3.alloc (.cells #[.slice none 0 0, .int .i64 n, .slice none 0 0, .slice (some ⟨b0 + 13, 0, none⟩) 4 4] 31)) := (Below.refl _ _).alloc (Nat.le_refl _) _
 have hr4 : (w3.alloc (.cells #[.slice none 0 0, .int .i64 n, .slice none 0 0, .slice (some ⟨b0 + 13, 0, none⟩) 4 4] 31)).heap[w3.heap.size]? = some (.cells #[.slice none 0 0, .int .i64 n, .slice none 0 0, .slice (some ⟨b0 + 13, 0, none⟩) 4 4] 31 (0, 0)) := heap_alloc_new _ _
 have HM4 := Lib.hid (HM3.out.push hal4 w3.heap.size 31 4 [nv, iv n, nv, sv 13 4] (Nat.le_refl _) (rowAt_rnds hr4 (.cons (.v _) (.cons (.v _) (.cons (.v _) (.cons (rnd_sl _ 13 4 (by decide)) .nil)))) rfl (by show 4 ≤ far; decide)) rfl (by show 1 ≤ 3; decide))
 have HB4 := Lib.hid (HB3.out.trans (hal4.mono hz3))
 have g0 := cell_of_row _ _ 0 _ _ _ hr4; have g1 := cell_of_row _ _ 1 _ _ _ hr4; have g2 := cell_of_row _ _ 2 _ _ _ hr4; have g3 := cell_of_row _ _ 3 _ _ _ hr4
 clear hal4 hr4
 go_upto_region 4 with fail
 generalize (w3.alloc _) = w4 at *
 generalize w3.heap.size = pf at *
 go_wp2_with fail
 refine (HCd.out _ _ _ (by show 2 ≤ 3; decide) w4 HM4.out).mono ?_; rintro e w5 ⟨rfl, hm5, hb5⟩
 have HM5 := Lib.hid hm5; have HB5 := Lib.hid (HB4.out.trans hb5)
 clear g0 g1 g2 g3 hm5 hb5
 have hz5 := HB5.out.size
 have x0 := cell_v (i := 0) HM5.out.pop.top rfl; have x1 := cell_v (i := 1) HM5.out.pop.top rfl; have x2 := cell_v (i := 2) HM5.out.pop.top rfl; have x3 := cell_v (i := 3) HM5.out.pop.top rfl; have x4 := cell_v (i := 4) HM5.out.pop.top rfl
 simp only at x0 x1 x2 x3 x4
 go_wp2_with fail
 refine (HTr.out w5).mono ?_; rintro e w6 ⟨rfl, hb6⟩
 have HM6 := Lib.hid (HM5.out.below hb6); have HB6 := Lib.hid (HB5.out.trans (hb6.mono hz5))
 clear x0 x1 x2 x3 x4 hb6
 have hz6 := HB6.out.size
 have qr : (r != r) = false := by simp
 have qo : (ok != ok) = false := by cases ok <;> rfl
 have HKn := Lib.hid (HK.out w6 HB6.out)
 cases hok : ok
 ·subst hok
  go_wp2_with fail
  refine HKn.out.mono ?_; rintro e w7 ⟨rfl, hb7⟩
  have HX := Lib.hid (HB6.out.trans (hb7.mono hz6))
  clear hb7
  go_wp2_with fail
  go_ret
  exact ⟨rfl, HX.out⟩
 subst hok
 by_cases h20 : 20 ≤ r
 ·go_wp2_with fail
  refine HKn.out.mono ?_; rintro e w7 ⟨rfl, hb7⟩
  have HX := Lib.hid (HB6.out.trans (hb7.mono hz6))
  clear hb7
  go_wp2_with fail
  go_ret
  exact ⟨rfl, HX.out⟩
 have HTc := Lib.hid (wTrace_any (F0 p n s t b) (A0 b0) _ _ _ _ _ w6 (f0_mem HM6.out.f) (f0_ok HW.out) (f0_in HW.out) (path_of HW.out HS.out (by omega)))
 change Hid (Calls Tryz.prog _ #[.agg #[.slice none 0 0, .int .i64 n, .slice none 0 0, .slice (some ⟨b0 + 13, 0, none⟩) 4 4], .agg #[.slice none 0 0, .slice none 0 0], .slice none 0 0] w6 _) at HTc
 have hr0 : 0 ≤ r := by
  rcases HS.out with ⟨_, h1, _⟩ | ⟨h1, _⟩
  ·exact h1
  ·cases h1
 obtain ⟨K, rfl⟩ := Int.eq_ofNat_of_zero_le hr0
 rw [Int.toNat_natCast] at HTc
 have g0 := cell_v (i := 0) HM6.out.top rfl; have g1 := cell_v (i := 1) HM6.out.top rfl; have g2 := cell_v (i := 2) HM6.out.top rfl; have g3 := cell_s (i := 3) HM6.out.top rfl (by decide)
 simp only at g0 g1 g2 g3
 go_wp2_with fail
 refine HTc.out.mono ?_; rintro e w7 ⟨ba, bc, rfl, hi7, hb7⟩
 have HI7 := Lib.hid hi7; have HB7 := Lib.hid (HB6.out.trans (hb7.mono hz6))
 have HHd := Lib.hid (bP_head K)
 have hK : K < 20 := by omega
 obtain ⟨M, hM⟩ : ∃ M, M = 2 * K + 3 := ⟨_, rfl⟩
 have HMM := Lib.hid hM
 rw [← hM] at HI7 ⊢
 clear g0 g1 g2 g3 hi7 hb7 hM qr qo
 go_wp2_with fail
 go_loopw [13, 12] (fun i hv wr => ∃ j : Nat, j ≤ M ∧ i = .int .i64 j ∧ hv = .int .i64 ((j / 2 : Nat) : Int) ∧ w7 = wr) (fun i _ _ => M - (intOf i).toNat)
 case atStart => exact ⟨0, Nat.zero_le _, rfl, rfl, rfl⟩
 case round =>
  obtain ⟨j, hj, rfl, rfl, rfl⟩ := hrel
  by_cases hjM : j < M
  ·have hjm : (j : Int) < (M : Int) := by omega
   have hM8 : M < 100 := by have := HMM.out; omega
   have hcj := HI7.out j (by rw [blksP_len]; exact hjM)
   rw [blksP_get _ hjM] at hcj
   obtain ⟨ib, io, rfl, hcj⟩ := hcj
   by_cases h1 : j % 2 = 1
   ·rw [(HHd.out j).2 h1] at hcj
    have hq : (((1 : Nat) : Int) == 1) = true := rfl
    have hj2 : ((j / 2 : Nat) : Int) + 1 = (((j + 1) / 2 : Nat) : Int) := by omega
    have hj3 : ((j / 2 : Nat) : Int) < 100 := by omega
    have hj4 : (0 : Int) ≤ ((j / 2 : Nat) : Int) := by omega
    have hj5 : (j : Int) < 100 := by omega
    clear HI7 HM6 HM5 HM4 HM3 HTc HS HW HTr HCd HCu HCt
    generalize ((j / 2 : Nat) : Int) = A at *
    have HJ2 := Lib.hid hj2
    clear hj2 h1
    go_wp2_with fail
    go_roundw
    case rel => exact ⟨j + 1, by omega, by go_num, by first | rw [← HJ2.out] | (refine congrArg _ ?_; have := HJ2.out; omega), by trivial⟩
    case measure => simp [intOf]; omega
   ·have h0 : bP K j ≠ 1 := fun e => h1 ((HHd.out j).1 e)
    have hq : (((bP K j : Nat) : Int) == 1) = false := by
     rw [beq_eq_false_iff_ne]; omega
    have hj2 : ((j / 2 : Nat) : Int) = (((j + 1) / 2 : Nat) : Int) := by omega
    have hj5 : (j : Int) < 100 := by omega
    generalize bP K j = y at *
    clear HI7 HM6 HM5 HM4 HM3 HTc HS HW HTr HCd HCu HCt
    generalize ((j / 2 : Nat) : Int) = A at *
    have HJ2 := Lib.hid hj2
    clear hj2 h1 h0
    go_wp2_with fail
    go_roundw
    case rel => exact ⟨j + 1, by omega, by go_num, by first | rw [← HJ2.out] | (refine congrArg _ ?_; have := HJ2.out; omega), by trivial⟩
    case measure => simp [intOf]; omega
  ·obtain rfl : j = M := by omega
   have hjm : ¬ (j : Int) < (j : Int) := by omega
   have hA : ((j / 2 : Nat) : Int) = (K : Int) + 1 := by have := HMM.out; omega
   have qk : ((K : Int) + 1 == (K : Int) + 1) = true := by simp
   have qz : ((0 : Int) == 0) = true := rfl
   clear HI7 HM6 HM5 HM4 HM3 HTc HS HW HTr HCd HCu HCt
   rw [hA]
   go_wp2_with fail
   refine (HK.out _ HB7.out).mono ?_; rintro e w8 ⟨rfl, hb8⟩
   have HX := Lib.hid (HB7.out.trans (hb8.mono HB7.out.size))
   clear hb8
   go_wp2_with fail
   go_ret
   exact ⟨rfl, HX.out⟩
end Go.Proofs.YtbbbflnnbbaamaaGreatDoor.PK
namespace Go.Proofs.YtbbbflnnbbaamaaGreatDoor
open Go.ChangeShapes Go.WideShapes Go.ChangeAt Go.RowKit Go.Joins Go.Deep

section
variable {H : Type} {enc : TypeId × Value → H} {P : Program}

theorem trodAll_below (hl : laidOutB P = true) {W W' : World} (hb : Below W.heap.size W W') :
  ∀ {ts : List TypeId} {vs : List Value} {ds : List (DataW H)} {ps : List MemPlace}, (∀ t ∈ ts, P.readableRec t = true ∧ t < P.types.size) →
   DataW.TrodAll enc P W 0 (fun _ => true) true ts vs ds ps → (∀ x ∈ ps, x.block < W.heap.size) →
   DataW.TrodAll enc P W' 0 (fun b => decide (b < W.heap.size)) true ts vs ds ps
 | [], [], [], _, _, h, _ => h
 | t :: ts, v :: vs, d :: ds, ps, hr, h, hlt => by
  obtain ⟨p, q, h1, h2, rfl⟩ := h
  refine ⟨p, q, Below.trod hl (hr t (by simp)).1 (hr t (by simp)).2 h1 hb (fun x hx => hlt x (by simp [hx])), ?_, rfl⟩
  exact trodAll_below hl hb (fun t ht => hr t (by simp [ht])) h2 (fun x hx => hlt x (by simp [hx]))
 | [], [], _ :: _, _, _, h, _ => absurd h (by simp [DataW.TrodAll])
 | [], _ :: _, _, _, _, h, _ => absurd h (by simp [DataW.TrodAll])
 | _ :: _, [], _, _, _, h, _ => absurd h (by simp [DataW.TrodAll])
 | _ :: _, _ :: _, [], _, _, h, _ => absurd h (by simp [DataW.TrodAll])

theorem law_post {f : Func} {s : ChangeSpec} {W W' : World} {args : Array Value} {ds gs : List (DataW H)} {before : List MemPlace} {tb : TypeId}
  (hl : laidOutB P = true) (hr : f.params.all (fun t => P.readableRec t && decide (t < P.types.size)) = true) (hv : s.vars = []) (hb4 : P.underlying tb = some .bool) (hrt : f.resultTypes = #[tb])
  (hW : DataW.Whole enc P f.params.toList s.vars false W args.toList ds gs before) (hfn : s.fn H (ds ++ gs) = { results := [.lit (.bool true)], args := ds })
  (hb : Below W.heap.size W W') : s.post enc P f false true false false W args (.bool true) W' := by
 have hlt := hW.lt
 have hW' := hW
 obtain ⟨p, q, hA, hV, rfl, _, _⟩ := hW'
 rw [hv] at hV
 obtain ⟨rfl, rfl⟩ := trodVars_none hV
 refine ⟨ds, [], p ++ [], [], p, [], hW, ?_, ?_, ?_, ?_, fun h => by cases h⟩
 ·rw [hfn, hrt]
  exact trodAll_mk1 (shut_bool hb4 _)
 ·rw [hfn]
  refine trodAll_below hl hb (fun t ht => ?_) hA (fun x hx => hlt x (by simp [hx]))
  rw [Array.all_eq_true'] at hr
  have := hr t (by simpa using ht)
  simpa using this
 ·rw [hv, hfn]; exact rfl
 ·exact World.keptBut_mono (fun p hp => absurd hp (by simp)) (hb.frame (fun _ => False))
end

section
variable {H : Type} {enc : TypeId × Value → H} {P : Program} {w : World} {base : Nat} {spare : Nat → Bool} {held : Bool}
theorem open_agg5 {r : Reach} {b0 : Nat} {t : TypeId} {f0 f1 f2 f3 f4 : Field} {v : Value} {d : DataW H} {p : List MemPlace} (hs : P.underlying t = some (.struct #[f0, f1, f2, f3, f4])) (hone : oneCellFields P #[f0, f1, f2, f3, f4] = true) (hC : P.cellsOf t = 5)
  (hv : Value.okWide P w r b0 t v) (h : DataW.Trod enc P w base spare held t v d p) :
  ∃ (v0 v1 v2 v3 v4 : Value) (y0 y1 y2 y3 y4 : DataW H × List MemPlace) (n : Nat), v = .agg #[v0, v1, v2, v3, v4] ∧ d = .agg [y0.1, y1.1, y2.1, y3.1, y4.1] ∧ p = y0.2 ++ (y1.2 ++ (y2.2 ++ (y3.2 ++ y4.2))) ∧
   DataW.trod enc P w base spare held n f0.type [v0] = some y0 ∧ DataW.trod enc P w base spare held n f1.type [v1] = some y1 ∧ DataW.trod enc P w base spare held n f2.type [v2] = some y2 ∧ DataW.trod enc P w base spare held n f3.type [v3] = some y3 ∧ DataW.trod enc P w base spare held n f4.type [v4] = some y4 := by
 obtain ⟨cs, rfl, hsz⟩ := okWide_struct hs hv
 obtain ⟨l⟩ := cs
 match l, hsz.trans hC with
 | [c0, c1, c2, c3, c4], _ =>
  obtain ⟨fuel, hf⟩ := h
  obtain ⟨xs, n, _, hx, _, hlen, hg⟩ := DataW.trod_struct hs hf
  obtain ⟨o0, k0⟩ := hone_of hone 0 f0 rfl
  obtain ⟨o1, k1⟩ := hone_of hone 1 f1 rfl
  obtain ⟨o2, k2⟩ := hone_of hone 2 f2 rfl
  obtain ⟨o3, k3⟩ := hone_of hone 3 f3 rfl
  obtain ⟨o4, k4⟩ := hone_of hone 4 f4 rfl
  match xs, hlen with
  | [y0, y1, y2, y3, y4], _ =>
   simp only [Prod.mk.injEq] at hx
   exact ⟨c0, c1, c2, c3, c4, y0, y1, y2, y3, y4, n, rfl, by simpa using hx.1, by simpa using hx.2, by simpa [Value.cells, o0, k0] using hg 0 f0 rfl, by simpa [Value.cells, o1, k1] using hg 1 f1 rfl, by simpa [Value.cells, o2, k2] using hg 2 f2 rfl, by simpa [Value.cells, o3, k3] using hg 3 f3 rfl, by simpa [Value.cells, o4, k4] using hg 4 f4 rfl⟩
end
end Go.Proofs.YtbbbflnnbbaamaaGreatDoor
namespace Go.Proofs.YtbbbflnnbbaamaaGreatDoor
open Go.ChangeShapes Go.WideShapes Go.ChangeAt Go.RowKit

theorem seatOwn : ownKnob Tryz.prog.godebug = none := by kernel_rfl
theorem gTab : Tryz.prog.globalNamed "math/bits.deBruijn32tab" = some 0 := by kernel_rfl
theorem gTabType : (Tryz.prog.globals[0]?).map (·.type) = some 148 := by kernel_rfl
theorem cellsTab : Tryz.prog.cellsOf 148 = 32 := by kernel_rfl
theorem cellsU8 : Tryz.prog.cellsOf 5 = 1 := by kernel_rfl
theorem seatLaidOut : laidOutB Tryz.prog = true := by kernel_rfl
theorem tabs_eq : ∀ j, j < 32 → ([0, 1, 28, 2, 29, 14, 24, 3, 30, 22, 20, 15, 25, 17, 4, 8, 31, 27, 13, 23, 21, 19, 16, 7, 26, 12, 18, 6, 11, 5, 10, 9] : List Int).getD j 0 = ((Lib.deBruijn32tab.getD j 0 : Nat) : Int) := by decide

theorem tab_of {W : World} (h : laidMetH Tryz.prog [("math/bits.deBruijn32tab", Rows.laid_math_bits_deBruijn32tab)] W) : Tab W := by
 have ht : Lib.TabIs Tryz.prog W "math/bits.deBruijn32tab" .u8 [0, 1, 28, 2, 29, 14, 24, 3, 30, 22, 20, 15, 25, 17, 4, 8, 31, 27, 13, 23, 21, 19, 16, 7, 26, 12, 18, 6, 11, 5, 10, 9] :=
  Lib.tabIs_of_head (rest := []) gTab gTabType Tryz.underlying148 Tryz.underlying5 cellsU8 cellsTab h
 have hcell : ∀ j, j < 32 → W.cell? ⟨0, j, none⟩ = some (.int .u8 (Lib.deBruijn32tab.getD j 0)) := by
  intro j hj
  have hc := ht.cell gTab j (by simpa using hj)
  rw [hc, tabs_eq j hj]
 refine ⟨?_, hcell⟩
 have h0 := hcell 0 (by decide)
 apply Nat.pos_of_ne_zero
 intro hz
 unfold World.cell? at h0
 rw [Array.getElem?_eq_none (by omega)] at h0
 cases h0
theorem word_of_wf {x : Int} (h : (Lit.int .u32 x).wf = true) : 0 ≤ x ∧ x ≤ 4294967295 := by
 simp [Lit.wf, IntKind.min, IntKind.max, IntKind.signed, IntKind.bits] at h
 omega
noncomputable def laidWorld (os : Os) : World :=
 { World.holding Tryz.prog os ⟨#[], #[], []⟩ with heap := (World.holding Tryz.prog os ⟨#[], #[], []⟩).heap.modify 0 fun
   | .cells _ t frozen => .cells #[.int .u8 0, .int .u8 1, .int .u8 28, .int .u8 2, .int .u8 29, .int .u8 14, .int .u8 24, .int .u8 3, .int .u8 30, .int .u8 22, .int .u8 20, .int .u8 15, .int .u8 25, .int .u8 17, .int .u8 4, .int .u8 8, .int .u8 31, .int .u8 27, .int .u8 13, .int .u8 23, .int .u8 21, .int .u8 19, .int .u8 16, .int .u8 7, .int .u8 26, .int .u8 12, .int .u8 18, .int .u8 6, .int .u8 11, .int .u8 5, .int .u8 10, .int .u8 9] t frozen
   | o => o }

theorem cellsCnt : Tryz.prog.cellsOf 24 = 5 := by kernel_rfl
namespace fnCounts
set_option maxRecDepth 100000 in
theorem contract (H : Type) (enc : TypeId × Value → H) (W : World) (base : Nat) (args : Array Value) (ds gs : List (DataW H)) (before : List MemPlace)
  (hval : ∀ (j : Nat) t v, Tryz.f3.params[j]? = some t → args[j]? = some v → Value.okWide Tryz.prog W .any base t v)
  (hW : DataW.Whole enc Tryz.prog Tryz.f3.params.toList Rows.loopCountsSpec.vars false W args.toList ds gs before) (hL : laidMetH Tryz.prog Rows.loopCountsRow.laid W)
  :
  Calls Tryz.prog 3 args W fun e W' => ∃ v, e = .returned v ∧ Rows.loopCountsSpec.post enc Tryz.prog Tryz.f3 false true false false W args v W' := by
 have hW' := hW
 obtain ⟨p, q, hA0, hV, rfl, hfz, hnd⟩ := hW
 have hA : DataW.TrodAll enc Tryz.prog W 0 (fun _ => true) true Tryz.f3.params.toList args.toList ds p := hA0
 rw [Tryz.params3] at hA hval
 obtain ⟨v0, vs0, d0, ds0, p0, q0, hargs, rfl, rfl, h0, r0⟩ := trodAll_cons hA
 obtain ⟨rfl, rfl, rfl⟩ := trodAll_nil r0
 obtain rfl : args = #[v0] := by cases args; simp_all
 obtain ⟨rfl, rfl⟩ := trodVars_none hV
 obtain ⟨c0, c1, c2, c3, c4, y0, y1, y2, y3, y4, m, rfl, hd, hpl, z0, z1, z2, z3, z4⟩ := open_agg5 Tryz.underlying24 (by kernel_rfl) cellsCnt (hval 0 24 v0 rfl rfl) h0
 obtain ⟨x0, e0, _, _⟩ := DataW.trod_int Tryz.underlying3 z0
 obtain ⟨x1, e1, _, _⟩ := DataW.trod_int Tryz.underlying3 z1
 obtain ⟨x2, e2, _, g2⟩ := DataW.trod_int Tryz.underlying22 z2
 obtain ⟨x3, e3, _, g3⟩ := DataW.trod_int Tryz.underlying22 z3
 obtain ⟨x4, e4, _, g4⟩ := DataW.trod_int Tryz.underlying22 z4
 simp only [List.cons.injEq, and_true] at e0 e1 e2 e3 e4
 subst e0 e1 e2 e3 e4
 refine (PK.loopCounts_any x0 x1 x2 x3 x4 W (tab_of hL) (words3 (word_of_wf g2).1 (word_of_wf g2).2 (word_of_wf g3).1 (word_of_wf g3).2 (word_of_wf g4).1 (word_of_wf g4).2)).mono fun e W' ⟨he, hg⟩ => ?_
 subst he
 exact ⟨_, rfl, law_post seatLaidOut (by kernel_rfl) rfl Tryz.underlying4 (by kernel_rfl) hW' rfl hg⟩

theorem laid_met (os : Os) : laidMet Tryz.prog Rows.loopCountsRow.laid ((laidWorld os).forCall (fun _ _ => 0) ⟨#[], #[.agg #[.int .i64 0, .int .i64 0, .int .u32 0, .int .u32 0, .int .u32 0]], []⟩).memory :=
 laidMet_of_run' 8 (by kernel_rfl) (by kernel_rfl)
theorem reads (os : Os) {H : Type} (enc : TypeId × Value → H) : ∃ places, DataW.whole enc Tryz.prog ((laidWorld os).forCall (fun _ _ => 0) ⟨#[], #[.agg #[.int .i64 0, .int .i64 0, .int .u32 0, .int .u32 0, .int .u32 0]], []⟩).memory Tryz.f3.params.toList Rows.loopCountsSpec.vars false (#[.agg #[.int .i64 0, .int .i64 0, .int .u32 0, .int .u32 0, .int .u32 0]] : Array Value).toList 8 = some ([.agg [.lit (.int .i64 0), .lit (.int .i64 0), .lit (.int .u32 0), .lit (.int .u32 0), .lit (.int .u32 0)]], [], places) :=
 ⟨[], by kernel_rfl⟩

set_option maxRecDepth 100000 in
theorem lifted (os : Os) (started : os.Started) (H : Type) (enc : TypeId × Value → H) (F : Stop.Interp) :
  ReturnsInHanded {} Tryz.checked os 3 .any ((OpenSpec.ofChange Rows.loopCountsSpec).preRow enc Tryz.prog Tryz.f3 Rows.loopCountsRow.domain false Rows.loopCountsRow.laid) (((OpenSpec.ofChange Rows.loopCountsSpec).at F).post enc Tryz.prog Tryz.f3 false true false false) := by
 obtain ⟨places, hx⟩ := reads os enc
 refine returnsInHanded_of_row (C := Tryz.checked) (s := (OpenSpec.ofChange Rows.loopCountsSpec)) seatOwn started (by kernel_rfl) Tryz.func3
  (witness_row_at (enc := enc) (C := Tryz.checked) false (laidWorld os) #[.agg #[.int .i64 0, .int .i64 0, .int .u32 0, .int .u32 0, .int .u32 0]] rfl (by kernel_rfl) (by kernel_rfl) (by kernel_rfl)
   (OpenSpec.preRow_of_cond 8 hx (by kernel_rfl) (fun k hk => by cases hk) (by kernel_rfl) (laid_met os))) ?_
 intro W base args ds gs before hval hW _ _ _ hL _ _
 exact contract H enc W base args ds gs before hval hW hL
theorem said : Rows.LoopCountsSaid :=
 OpenClaim.holds_of_cond 3 Tryz.f3 rfl rfl rfl rfl rfl rfl rfl ⟨rfl, rfl, rfl, rfl, rfl⟩ rfl rfl rfl rfl rfl (by kernel_rfl) Tryz.func3 (by kernel_rfl)
  (of_decide_eq_true (by kernel_rfl)) (by unfold Func.isWrapper; first | (rw [if_pos (by decide +kernel)]; kernel_rfl) | (rw [if_neg (by decide +kernel)]; exact ⟨rfl, rfl⟩))
  (fun os started H enc _ F => by rw [OpenClaim.pre_eq_preRow]; exact lifted os started H enc F)
theorem plain (f : FuncId) (fn : Func) (hf : Tryz.pinned.checked.prog.funcNamed "backstay/backstaylaw16.LoopCounts" = some f) (hfn : Tryz.pinned.checked.prog.funcs[f]? = some fn) :
  false = Tryz.pinned.checked.prog.looks [] ∧ ∀ (j : Nat) t, fn.params[j]? = some t → Tryz.pinned.checked.prog.wantsStandIn t = false := by
 obtain rfl : f = 3 := Option.some.inj ((show Tryz.prog.funcNamed "backstay/backstaylaw16.LoopCounts" = some 3 by kernel_rfl).symm.trans hf) |>.symm
 obtain rfl : fn = Tryz.f3 := (Option.some.inj (Tryz.func3.symm.trans hfn)).symm
 refine ⟨by kernel_rfl, fun j t ht => ?_⟩
 have hall : Tryz.f3.params.all (fun t => Tryz.prog.wantsStandIn t == false) = true := by kernel_rfl
 rw [Array.all_eq_true'] at hall
 exact eq_of_beq (hall t (Array.mem_of_getElem? ht))
theorem card : Rows.LoopCountsCardSaid :=
 Claim7.holds_tied_plain_at .later [] _ _ _ _ said (fun _ h => by cases h) (by kernel_rfl) (fun _ h => by cases h) loopCounts_row_tie rfl ⟨rfl, rfl⟩ (by kernel_rfl) rfl plain (by kernel_rfl)
end fnCounts
#print axioms fnCounts.card
end Go.Proofs.YtbbbflnnbbaamaaGreatDoor
