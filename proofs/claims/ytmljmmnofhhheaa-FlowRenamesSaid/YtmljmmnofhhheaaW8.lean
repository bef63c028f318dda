/- Walks of the document's set and goes, of before. -/
import Derived.Test.YtmljmmnofhhheaaW7
namespace Go.Proofs.Ytmljmmnofhhheaa
open Go.RowKit

set_option maxRecDepth 100000 in
set_option maxHeartbeats 1000000 in
theorem rSet_any (v : Value) (n : Nat) (S : NSet) (w : World) (hv : BoolSl w v n S) (hn : n ≤ 1000) :
    Calls Try.prog 50 #[v] w fun e w' => ∃ v', e = .returned v' ∧ NatSl w' v' (setUpto S n) ∧ Below w.heap.size w w' := by
  obtain ⟨q, cap, rfl, hc⟩ := hv
  have HC := Lib.hid hc; clear hc
  obtain ⟨i0, hi, hz0, hz1, hz2⟩ := info_parts Try.infoInt
  go_enter Try.func50, Try.ntmps50
  go_wp2_with fail
  go_loopw [3, 4] (fun v i wr => ∃ k : Nat, k ≤ n ∧ i = .int .i64 k ∧ wr.ownsRow w.heap.size 3 1 v (setUpto S k).length (encN (setUpto S k)) ∧ Below w.heap.size w wr) (fun _ i _ => n - (intOf i).toNat)
  case atStart => exact ⟨0, Nat.zero_le _, rfl, World.ownsRow_nil _ _ _ _, Below.refl _ _⟩
  case round =>
    obtain ⟨k, hk, rfl, hown, hb⟩ := hrel
    by_cases hlt : k < n
    · have hix := keep (HC.out k hlt) hb
      have HB := Lib.hid hb; clear hb
      have hsl := setUpto_len S k
      cases hs : S k
      · rw [hs] at hix
        have HS := Lib.hid (setUpto_no hs); clear hs
        have HO := Lib.hid hown; clear hown
        go_wp2_with fail
        go_roundw
        case rel => exact ⟨k + 1, by omega, by go_num, by rw [HS.out]; exact HO.out, HB.out⟩
        case measure => simp [intOf]; omega
      · rw [hs] at hix
        have HS := Lib.hid (setUpto_yes hs); clear hs
        go_wp2_with (at_builtin; refine wpList_append_own _ rfl _ _ 32 rfl w.heap.size 3 i0 (.int .i64 0) 1 8 Try.underlying32 hi hz0 hz1 hz2 rfl (by decide) _ _ _ rfl (hown.alloc _) ⟨wr.heap.size, 0, none⟩ 1 1 [.int .i64 k] rfl rfl (cell_one_new _ _ _) one_int (by unfold maxLen; omega) (by omega) (by have := HB.out.size; simp; omega) ?_; intro v' w1 hown' hgrow _)
        have hb1 := (HB.out.alloc HB.out.size _).grown hgrow (by have := HB.out.size; simp; omega) (fun k hk => (hown.lt k hk).1)
        have HO := Lib.hid hown'
        have HB1 := Lib.hid hb1
        clear hown hown' hgrow hb1
        go_wp2_with fail
        go_roundw
        case rel => exact ⟨k + 1, by omega, by go_num, by rw [HS.out, encN_snoc, List.length_append]; exact HO.out, HB1.out⟩
        case measure => simp [intOf]; omega
    · obtain rfl : k = n := by omega
      have HO := Lib.hid hown; clear hown
      go_wp2_with fail
      go_ret
      exact ⟨_, rfl, natSl_of_owns HO.out, hb⟩

/-- A node has another one as a successor. -/
def goesI (g : Gr) (a : Nat) (b : Int) : Bool := (succ g a).any fun x => (x : Int) == b
theorem goesI_iff {g : Gr} {a : Nat} {b : Int} : goesI g a b = true ↔ ∃ x : Nat, x ∈ succ g a ∧ (x : Int) = b := by
  simp [goesI]
set_option maxRecDepth 100000 in
set_option maxHeartbeats 1000000 in
theorem rGoes_any (a : Option Addr) (cap : Nat) (g : Gr) (v : Nat) (b : Int) (w : World) (hg : GraphIn w a g) (ok : OkG g) (hv : v < g.length) :
    Calls Try.prog 53 #[.slice a g.length cap, .int .i64 v, .int .i64 b] w fun e w' => e = .returned (.bool (goesI g v b)) ∧ w = w' := by
  have h10 := ok.ten
  have hdg := ok.deg v
  obtain ⟨gb, goff, a', cap', rfl, hcell, hrow⟩ := hg v hv
  have HR := Lib.hid hrow
  have hF : NoneYet (succ g v) (fun x => (x : Int) == b) (succ g v).length → goesI g v b = false := fun h => h.fin
  have hT : ∀ k, k < (succ g v).length → ((((succ g v).getD k 0 : Nat) : Int) == b) = true → goesI g v b = true := fun k hk h => any_here (d := 0) (p := fun x : Nat => (x : Int) == b) hk h
  have HF := Lib.hid hF; have HT := Lib.hid hT
  clear hg hrow hF hT
  generalize goesI g v b = G at *
  go_enter Try.func53, Try.ntmps53
  go_wp2_with fail
  go_loop [7] (fun i => ∃ k : Nat, k ≤ (succ g v).length ∧ i = .int .i64 k ∧ NoneYet (succ g v) (fun x => (x : Int) == b) k) (fun i => (succ g v).length - (intOf i).toNat)
  case atStart => exact ⟨0, Nat.zero_le _, rfl, NoneYet.zero⟩
  case round =>
    obtain ⟨k, hk, rfl, hny⟩ := hrel
    by_cases hlt : k < (succ g v).length
    · obtain ⟨b2, off2, rfl, hx⟩ := HR.out k hlt
      have HN := Lib.hid hny; clear hny
      generalize hxx : (succ g v).getD k 0 = x at *
      have HX := Lib.hid hxx; clear hxx
      cases he : ((x : Int) == b)
      · have HE := Lib.hid he
        go_wp2_with fail
        go_round
        case rel => exact ⟨k + 1, by omega, by go_num, HN.out.next (d := 0) hlt (by rw [HX.out]; exact HE.out)⟩
        case measure => simp [intOf]; omega
      · have HE := Lib.hid he
        go_wp2_with fail
        go_ret
        exact ⟨ret_bool (HT.out k hlt (by rw [HX.out]; exact HE.out)).symm, rfl⟩
    · obtain rfl : k = (succ g v).length := by omega
      have HN := Lib.hid hny; clear hny
      go_wp2_with fail
      go_ret
      exact ⟨ret_bool (HF.out HN.out).symm, rfl⟩

/-- Natural numbers as integers. -/
def ints (xs : List Nat) : List Int := xs.map fun (x : Nat) => (x : Int)
theorem ints_len (xs : List Nat) : (ints xs).length = xs.length := by simp [ints]
theorem ints_getD (xs : List Nat) (k : Nat) : (ints xs).getD k 0 = ((xs.getD k 0 : Nat) : Int) := by
  simp only [ints, List.getD_eq_getElem?_getD, List.getElem?_map]
  cases xs[k]? <;> rfl
theorem NatsIn.ints {w : World} {a : Option Addr} {xs : List Nat} (h : NatsIn w a xs) : IntsIn w a (ints xs) := fun k hk => by
  obtain ⟨b, off, rfl, hc⟩ := h k (by rwa [ints_len] at hk)
  exact ⟨b, off, rfl, by rw [ints_getD]; exact hc⟩
theorem mem_ints {g : Gr} {a : Nat} {b : Int} : decide (b ∈ Proofs.Ytmljmmnofhhheaa.ints (succ g a)) = goesI g a b := by
  rw [Bool.eq_iff_iff, goesI_iff, decide_eq_true_iff]
  simp [Proofs.Ytmljmmnofhhheaa.ints]
theorem containsN_any (g : Gr) (k : Nat) (a : Option Addr) (cap : Nat) (v : Int) (w : World) (hin : NatsIn w a (succ g k)) (ok : OkG g) :
    Calls Try.prog 71 #[.slice a (succ g k).length cap, .int .i64 v] w fun e w' => e = .returned (.bool (goesI g k v)) ∧ w = w' := by
  have h := contains_any (Proofs.Ytmljmmnofhhheaa.ints (succ g k)) a cap v w hin.ints (by rw [ints_len]; have := ok.deg k; omega)
  rwa [ints_len, mem_ints] at h

/-- The nodes that have one as a successor, below k. -/
def beforeS (g : Gr) (v : Int) (k : Nat) : NSet := fun a => decide (a < k) && goesI g a v
theorem beforeS_next {g : Gr} {v : Int} {k : Nat} : beforeS g v (k + 1) = fun j => if j = k then goesI g k v else beforeS g v k j := by
  funext j
  unfold beforeS
  by_cases h : j = k
  · subst h; simp
  · have : decide (j < k + 1) = decide (j < k) := by rw [decide_eq_decide]; omega
    simp [h, this]
set_option maxRecDepth 100000 in
set_option maxHeartbeats 1000000 in
theorem before_any (a : Option Addr) (cap : Nat) (g : Gr) (v : Int) (w : World) (hg : GraphIn w a g) (ok : OkG g) :
    Calls Try.prog 52 #[.slice a g.length cap, .int .i64 v] w fun e w' => e = .returned (tenV (beforeS g v g.length)) ∧ Below w.heap.size w w' := by
  have h10 := ok.ten
  have HG := Lib.hid hg; clear hg
  go_enter Try.func52, Try.ntmps52
  go_wp2_with fail
  generalize hq : w.heap.size = q at *
  have HQ := Lib.hid hq; clear hq
  have hD0 : Ten ((w.alloc (.cells (bools (fun _ => false)) 54)).alloc (.cells (bools (fun _ => false)) 54)) q (fun _ => false) := by
    unfold Ten
    rw [heap_past _ _ _ (by simp only [World.size_alloc]; have := HQ.out; omega)]
    exact heap_at _ _ _ HQ.out.symm
  have hD1 : Ten ((w.alloc (.cells (bools (fun _ => false)) 54)).alloc (.cells (bools (fun _ => false)) 54)) (q + 1) (beforeS g v 0) := by
    unfold Ten
    rw [heap_at _ _ _ (by simp only [World.size_alloc]; have := HQ.out; omega), show beforeS g v 0 = fun _ => false from funext fun j => by simp [beforeS]]
  have hbl : Below w.heap.size w ((w.alloc (.cells (bools (fun _ => false)) 54)).alloc (.cells (bools (fun _ => false)) 54)) := ((Below.refl _ _).alloc (Nat.le_refl _) _).alloc (by simp) _
  unfold bools at hD0 hD1 hbl
  generalize (w.alloc (.cells #[.bool false, .bool false, .bool false, .bool false, .bool false, .bool false, .bool false, .bool false, .bool false, .bool false] 54)).alloc (.cells #[.bool false, .bool false, .bool false, .bool false, .bool false, .bool false, .bool false, .bool false, .bool false, .bool false] 54) = W1 at *
  have HD0 := Lib.hid hD0; have HD1 := Lib.hid hD1; have HBL := Lib.hid hbl
  clear hD0 hD1 hbl
  go_loopw [10] (fun i wr => ∃ k : Nat, k ≤ g.length ∧ i = .int .i64 k ∧ Ten wr (q + 1) (beforeS g v k) ∧ Touch (q + 1) W1 wr) (fun i _ => g.length - (intOf i).toNat)
  case atStart => exact ⟨0, Nat.zero_le _, rfl, HD1.out, Touch.refl _ _⟩
  case round =>
    obtain ⟨k, hk, rfl, hT, hTo⟩ := hrel
    have hq0 : w.heap.size ≤ q + 1 := by have := HQ.out; omega
    by_cases hlt : k < g.length
    · obtain ⟨gb, goff, a', cap', rfl, hcell0, hrow0⟩ := HG.out k hlt
      have hbw := HBL.out.trans (hTo.below hq0)
      have hcell := keep hcell0 hbw
      have hc1 := hT.cell (k := k) (by omega)
      have hf1 := hT.free k
      have hCall := Lib.hid (containsN_any g k a' cap' v wr (hrow0.below hbw) ok)
      have hdg := ok.deg k
      have HT1 := Lib.hid (hT.set (v := k) (by omega) (goesI g k v))
      have HTo := Lib.hid hTo
      clear hcell0 hrow0 hbw hT hTo
      generalize hgo : goesI g k v = G at *
      have HGo := Lib.hid hgo; clear hgo
      go_wp2_with (first | (go_at_call 71; refine hCall.out.mono ?_; rintro e w2 ⟨rfl, rfl⟩))
      go_roundw
      case rel => exact ⟨k + 1, by omega, by go_num, by rw [beforeS_next, HGo.out]; exact HT1.out, HTo.out.trans (Touch.set _ _ _ _)⟩
      case measure => simp [intOf]; omega
    · obtain rfl : k = g.length := by omega
      have hD2 : Ten wr q (fun _ => false) := by unfold Ten; rw [hTo.block _ (by omega)]; exact HD0.out
      generalize hS2 : beforeS g v g.length = S2 at *
      have HS2 := Lib.hid hS2; clear hS2
      have c0 := hT.cell (k := 0) (by decide); have c1 := hT.cell (k := 1) (by decide); have c2 := hT.cell (k := 2) (by decide); have c3 := hT.cell (k := 3) (by decide); have c4 := hT.cell (k := 4) (by decide)
      have c5 := hT.cell (k := 5) (by decide); have c6 := hT.cell (k := 6) (by decide); have c7 := hT.cell (k := 7) (by decide); have c8 := hT.cell (k := 8) (by decide); have c9 := hT.cell (k := 9) (by decide)
      have d0 := hD2.cell (k := 0) (by decide); have d1 := hD2.cell (k := 1) (by decide); have d2 := hD2.cell (k := 2) (by decide); have d3 := hD2.cell (k := 3) (by decide); have d4 := hD2.cell (k := 4) (by decide)
      have d5 := hD2.cell (k := 5) (by decide); have d6 := hD2.cell (k := 6) (by decide); have d7 := hD2.cell (k := 7) (by decide); have d8 := hD2.cell (k := 8) (by decide); have d9 := hD2.cell (k := 9) (by decide)
      have f0 := hD2.free 0; have f1 := hD2.free 1; have f2 := hD2.free 2; have f3 := hD2.free 3; have f4 := hD2.free 4
      have f5 := hD2.free 5; have f6 := hD2.free 6; have f7 := hD2.free 7; have f8 := hD2.free 8; have f9 := hD2.free 9
      have HD2 := Lib.hid hD2; have HTo := Lib.hid hTo; clear hT hD2 hTo
      go_wp2_with fail
      have T3 := HD2.out.fill S2
      have To3 := Touch.fill wr q S2
      show bodyPost _ _ _ _ _ (fill wr q S2)
      generalize fill wr q S2 = w3 at *
      refine bodyPost_ret (v := tenV S2) (results_ten (p := 4) rfl _ _ _ _ rfl T3) rfl ⟨by rw [HS2.out], ?_⟩
      exact (HBL.out.trans (HTo.out.below hq0)).trans (To3.below (by have := HQ.out; omega))
end Go.Proofs.Ytmljmmnofhhheaa
