/- Packed of several texts. -/
import Derived.Test.YtbbbflnnbbaamaaGreatDoorH16
import Derived.Test.YtbbbflnnbbaamaaGreatDoorH15
namespace Go.Proofs.YtbbbflnnbbaamaaGreatDoor.FL
open Go.RowKit

end Go.Proofs.YtbbbflnnbbaamaaGreatDoor.FL


namespace Go.Proofs.YtbbbflnnbbaamaaGreatDoor.FL
open Go.RowKit

def goesI (g : Gr) (a : Nat) (b : Int) : Bool := (succ g a).any fun x => (x : Int) == b
theorem goesI_iff {g : Gr} {a : Nat} {b : Int} : goesI g a b = true ↔ ∃ x : Nat, x ∈ succ g a ∧ (x : Int) = b := by
 simp [goesI]
def ints (xs : List Nat) : List Int := xs.map fun (x : Nat) => (x : Int)
theorem ints_len (xs : List Nat) : (ints xs).length = xs.length := by simp [ints]
theorem ints_getD (xs : List Nat) (k : Nat) : (ints xs).getD k 0 = ((xs.getD k 0 : Nat) : Int) := by
 simp only [ints, List.getD_eq_getElem?_getD, List.getElem?_map]
 cases xs[k]? <;> rfl
theorem NatsIn.ints {w : World} {a : Option Addr} {xs : List Nat} (h : NatsIn w a xs) : IntsIn w a (ints xs) := fun k hk => by
 obtain ⟨b, off, rfl, hc⟩ := h k (by rwa [ints_len] at hk)
 exact ⟨b, off, rfl, by rw [ints_getD]; exact hc⟩
theorem mem_ints {g : Gr} {a : Nat} {b : Int} : decide (b ∈ Proofs.YtbbbflnnbbaamaaGreatDoor.FL.ints (succ g a)) = goesI g a b := by
 rw [Bool.eq_iff_iff, goesI_iff, decide_eq_true_iff]
 simp [Proofs.YtbbbflnnbbaamaaGreatDoor.FL.ints]
theorem containsN_any (g : Gr) (k : Nat) (a : Option Addr) (cap : Nat) (v : Int) (w : World) (hin : NatsIn w a (succ g k)) (ok : OkG g) :
  Calls Tryz.prog 42 #[.slice a (succ g k).length cap, .int .i64 v] w fun e w' => e = .returned (.bool (goesI g k v)) ∧ w = w' := by
 have h := contains_any (Proofs.YtbbbflnnbbaamaaGreatDoor.FL.ints (succ g k)) a cap v w hin.ints (by rw [ints_len]; have := ok.deg k; omega)
 rwa [ints_len, mem_ints] at h

def beforeS (g : Gr) (v : Int) (k : Nat) : NSet := fun a => decide (a < k) && goesI g a v
theorem beforeS_next {g : Gr} {v : Int} {k : Nat} : beforeS g v (k + 1) = fun j => if j = k then goesI g k v else beforeS g v k j := by
 funext j
 unfold beforeS
 by_cases h : j = k
 ·subst h; simp
 ·have : decide (j < k + 1) = decide (j < k) := by rw [decide_eq_decide]; omega
  simp [h, this]
set_option maxRecDepth 100000 in
set_option maxHeartbeats 1000000 in
theorem before_any (a : Option Addr) (cap : Nat) (g : Gr) (v : Int) (w : World) (hg : GraphIn w a g) (ok : OkG g) :
  Calls Tryz.prog 121 #[.slice a g.length cap, .int .i64 v] w fun e w' => e = .returned (tenV (beforeS g v g.length)) ∧ Below w.heap.size w w' := by
 have h10 := ok.ten
 have HG := Lib.hid hg; clear hg
 go_enter Tryz.func121, Tryz.ntmps121
 go_wp2_with fail
 generalize hq : w.heap.size = q at *
 have HQ := Lib.hid hq; clear hq
 have hD0 : Ten ((w.alloc (.cells (bools (fun _ => false)) 123)).alloc (.cells (bools (fun _ => false)) 123)) q (fun _ => false) := by
  unfold Ten
  rw [heap_past _ _ _ (by simp only [World.size_alloc]; have := HQ.out; omega)]
  exact heap_at _ _ _ HQ.out.symm
 have hD1 : Ten ((w.alloc (.cells (bools (fun _ => false)) 123)).alloc (.cells (bools (fun _ => false)) 123)) (q + 1) (beforeS g v 0) := by
  unfold Ten
  rw [heap_at _ _ _ (by simp only [World.size_alloc]; have := HQ.out; omega), show beforeS g v 0 = fun _ => false from funext fun j => by simp [beforeS]]
 have hbl : Below w.heap.size w ((w.alloc (.cells (bools (fun _ => false)) 123)).alloc (.cells (bools (fun _ => false)) 123)) := ((Below.refl _ _).alloc (Nat.le_refl _) _).alloc (by simp) _
 unfold bools at hD0 hD1 hbl
 generalize (w.alloc (.cells #[.bool false, .bool false, .bool false, .bool false, .bool false, .bool false, .bool false, .bool false, .bool false, .bool false] 123)).alloc (.cells #[.bool false, .bool false, .bool false, .bool false, .bool false, .bool false, .bool false, .bool false, .bool false, .bool false] 123) = W1 at *
 have HD0 := Lib.hid hD0; have HD1 := Lib.hid hD1; have HBL := Lib.hid hbl
 clear hD0 hD1 hbl
 go_loopw [10] (fun i wr => ∃ k : Nat, k ≤ g.length ∧ i = .int .i64 k ∧ Ten wr (q + 1) (beforeS g v k) ∧ Touch (q + 1) W1 wr) (fun i _ => g.length - (intOf i).toNat)
 case atStart => exact ⟨0, Nat.zero_le _, rfl, HD1.out, Touch.refl _ _⟩
 case round =>
  obtain ⟨k, hk, rfl, hT, hTo⟩ := hrel
  have hq0 : w.heap.size ≤ q + 1 := by have := HQ.out; omega
  by_cases hlt : k < g.length
  ·obtain ⟨gb, goff, a', cap', rfl, hcell0, hrow0⟩ := HG.out k hlt
   have hbw := HBL.out.trans (hTo.below hq0)
   have hcell := keep hcell0 hbw
   have hc1 := hT.cell (k := k) (by omega)
   have hf1 := hT.free k
   have hCall := Lib.hid (containsN_any g k a' cap' v wr (hrow0.below hbw) ok)
   have hdg := ok.deg k
   have HT1 := Lib.hid (hT.set (v := k) (by omega) (goesI g k v))
   have HTo := Lib.hid hTo
   clear hcell0 hrow0 hbw hT hTo
   generalize hgo : goesI g k v = G at *
   have HGo := Lib.hid hgo; clear hgo
   go_wp2_with (first | (go_at_call 42; refine hCall.out.mono ?_; rintro e w2 ⟨rfl, rfl⟩))
   go_roundw
   case rel => exact ⟨k + 1, by omega, by go_num, by rw [beforeS_next, HGo.out]; exact HT1.out, HTo.out.trans (Touch.set _ _ _ _)⟩
   case measure => simp [intOf]; omega
  ·obtain rfl : k = g.length := by omega
   have hD2 : Ten wr q (fun _ => false) := by unfold Ten; rw [hTo.block _ (by omega)]; exact HD0.out
   generalize hS2 : beforeS g v g.length = S2 at *
   have HS2 := Lib.hid hS2; clear hS2
   have c0 := hT.cell (k := 0) (by decide); have c1 := hT.cell (k := 1) (by decide); have c2 := hT.cell (k := 2) (by decide); have c3 := hT.cell (k := 3) (by decide); have c4 := hT.cell (k := 4) (by decide)
   have c5 := hT.cell (k := 5) (by decide); have c6 := hT.cell (k := 6) (by decide); have c7 := hT.cell (k := 7) (by decide); have c8 := hT.cell (k := 8) (by decide); have c9 := hT.cell (k := 9) (by decide)
   have d0 := hD2.cell (k := 0) (by decide); have d1 := hD2.cell (k := 1) (by decide); have d2 := hD2.cell (k := 2) (by decide); have d3 := hD2.cell (k := 3) (by decide); have d4 := hD2.cell (k := 4) (by decide)
   have d5 := hD2.cell (k := 5) (by decide); have d6 := hD2.cell (k := 6) (by decide); have d7 := hD2.cell (k := 7) (by decide); have d8 := hD2.cell (k := 8) (by decide); have d9 := hD2.cell (k := 9) (by decide)
   have f0 := hD2.free 0; have f1 := hD2.free 1; have f2 := hD2.free 2; have f3 := hD2.free 3; have f4 := hD2.free 4
   have f5 := hD2.free 5; have f6 := hD2.free 6; have f7 := hD2.free 7; have f8 := hD2.free 8; have f9 := hD2.free 9
   have HD2 := Lib.hid hD2; have HTo := Lib.hid hTo; clear hT hD2 hTo
   go_wp2_with fail
   have T3 := HD2.out.fill S2
   have To3 := Touch.fill wr q S2
   show bodyPost _ _ _ _ _ (fill wr q S2)
   generalize fill wr q S2 = w3 at *
   refine bodyPost_ret (v := tenV S2) (results_ten (p := 4) rfl _ _ _ _ rfl T3) rfl ⟨by rw [HS2.out], ?_⟩
   exact (HBL.out.trans (HTo.out.below hq0)).trans (To3.below (by have := HQ.out; omega))
end Go.Proofs.YtbbbflnnbbaamaaGreatDoor.FL


namespace Go.Proofs.YtbbbflnnbbaamaaGreatDoor.FL
open Go.RowKit

def gN (g : List (List Int)) : Gr := g.map fun r => r.map Int.toNat
theorem gN_len (g : List (List Int)) : (gN g).length = g.length := by simp [gN]
theorem gN_succ (g : List (List Int)) (k : Nat) : succ (gN g) k = (g.getD k []).map Int.toNat := by
 simp only [succ, gN, List.getD_eq_getElem?_getD, List.getElem?_map]
 cases g[k]? <;> rfl
theorem valid_parts {g : List (List Int)} (h : validE g = 0) : largeB g = false ∧ argB g = false := by
 unfold validE at h
 cases h1 : largeB g <;> cases h2 : argB g <;> simp_all
theorem valid_row {g : List (List Int)} (h : validE g = 0) {k : Nat} (hk : k < g.length) : ∀ x ∈ g.getD k [], 0 ≤ x ∧ x < g.length := by
 intro x hx
 have h2 := (valid_parts h).2
 unfold argB at h2
 rw [List.any_eq_false] at h2
 have hm : g.getD k [] ∈ g := by rw [List.getD_eq_getElem?_getD, List.getElem?_eq_getElem hk]; simp
 have h3 := h2 _ hm
 rw [Bool.not_eq_true, List.any_eq_false] at h3
 have h4 := h3 x hx
 simp [offB] at h4
 omega
theorem getD_mem_any {α : Type} {l : List α} {k : Nat} (d : α) (h : k < l.length) : l.getD k d ∈ l := by
 rw [List.getD_eq_getElem?_getD, List.getElem?_eq_getElem h]; simp
theorem getD_out {α : Type} {l : List α} {k : Nat} (d : α) (h : l.length ≤ k) : l.getD k d = d := by
 rw [List.getD_eq_getElem?_getD, List.getElem?_eq_none h]; rfl
theorem valid_ok {g : List (List Int)} (h : validE g = 0) : OkG (gN g) := by
 have h1 := (valid_parts h).1
 unfold largeB at h1
 simp only [Bool.or_eq_false_iff, decide_eq_false_iff_not] at h1
 obtain ⟨a1, a2, a3⟩ := h1
 refine ⟨fun v x hx => ?_, by rw [gN_len]; omega, by rw [gN_len]; omega, fun v => ?_⟩
 ·rw [gN_len]
  rw [gN_succ] at hx
  by_cases hv : v < g.length
  ·obtain ⟨y, hy, rfl⟩ := List.mem_map.1 hx
   have := valid_row h hv y hy
   omega
  ·rw [getD_out [] (by omega)] at hx; cases hx
 ·rw [gN_succ, List.length_map]
  by_cases hv : v < g.length
  ·rw [List.any_eq_false] at a3
   have := a3 _ (getD_mem_any [] hv)
   simp only [decide_eq_true_eq] at this
   omega
  ·rw [getD_out [] (by omega)]; simp
theorem valid_ints {g : List (List Int)} (h : validE g = 0) (k : Nat) : g.getD k [] = ints (succ (gN g) k) := by
 rw [gN_succ]
 unfold ints
 rw [List.map_map]
 by_cases hk : k < g.length
 ·have hr := valid_row h hk
  generalize g.getD k [] = row at *
  induction row with
  | nil => rfl
  | cons x l ih =>
   rw [List.map_cons, ← ih (fun y hy => hr y (by simp [hy]))]
   have := hr x (by simp)
   simp only [Function.comp]
   rw [show ((x.toNat : Nat) : Int) = x by omega]
 ·rw [getD_out [] (by omega)]; rfl
theorem RowsIn.graph {w : World} {a : Option Addr} {g : List (List Int)} (h : RowsIn w a g) (hv : validE g = 0) : GraphIn w a (gN g) := fun k hk => by
 obtain ⟨b, off, a', cap, rfl, hc, hi⟩ := h k (by rwa [gN_len] at hk)
 have e := valid_ints hv k
 rw [e, ints_len] at hc
 refine ⟨b, off, a', cap, rfl, hc, fun j hj => ?_⟩
 obtain ⟨b2, off2, rfl, hx⟩ := hi j (by rw [e, ints_len]; exact hj)
 rw [e, ints_getD] at hx
 exact ⟨b2, off2, rfl, hx⟩

def nodeE (g : List (List Int)) (l : List Int) : Int := if validE g = 0 then (if l.any (offB g.length) then 4 else 0) else validE g
noncomputable def thereE (g : List (List Int)) (l : List Int) : Int := if nodeE g l = 0 then (if l.any (fun x => !(rs (gN g) (-1) 0 x.toNat)) then 9 else 0) else nodeE g l
theorem node_valid {g : List (List Int)} {l : List Int} (h : nodeE g l = 0) : validE g = 0 ∧ ∀ x ∈ l, 0 ≤ x ∧ x < g.length := by
 unfold nodeE at h
 by_cases hv : validE g = 0
 ·rw [if_pos hv] at h
  refine ⟨hv, fun x hx => ?_⟩
  cases ha : l.any (offB g.length)
  ·rw [List.any_eq_false] at ha
   have := ha x hx
   simp [offB] at this
   omega
  ·rw [ha] at h; cases h
 ·rw [if_neg hv] at h; exact absurd h hv
theorem there_node {g : List (List Int)} {l : List Int} (h : thereE g l = 0) : nodeE g l = 0 ∧ ∀ x ∈ l, rs (gN g) (-1) 0 x.toNat = true := by
 unfold thereE at h
 by_cases hv : nodeE g l = 0
 ·rw [if_pos hv] at h
  refine ⟨hv, fun x hx => ?_⟩
  cases ha : l.any (fun x => !(rs (gN g) (-1) 0 x.toNat))
  ·rw [List.any_eq_false] at ha
   simpa using ha x hx
  ·rw [ha] at h; cases h
 ·rw [if_neg hv] at h; exact absurd h hv

set_option maxRecDepth 100000 in
set_option maxHeartbeats 1000000 in
theorem noded_any (g : List (List Int)) (a : Option Addr) (cap : Nat) (l : List Int) (al : Option Addr) (cl : Nat) (w : World) (hin : RowsIn w a g) (hs : Short g) (hl : IntsIn w al l) (hl1 : l.length ≤ 1000) :
  Calls Tryz.prog 72 #[.slice a g.length cap, .slice al l.length cl] w fun e w' => e = .returned (.int .i64 (nodeE g l)) ∧ Below w.heap.size w w' := by
 have HV : Hid (∀ w', Below w.heap.size w w' → Calls Tryz.prog 117 #[.slice a g.length cap] w' fun e w'' => e = .returned (.int .i64 (validE g)) ∧ Below w'.heap.size w' w'') := Lib.hid fun w' hb => Validate_any g a cap w' (hin.below hb) hs
 have HC : Hid (∀ w', Below w.heap.size w w' → w'.cell? ⟨w.heap.size, 0, none⟩ = some (.slice a g.length cap) → Calls Tryz.prog 77 #[.slice al l.length cl, .func (.func 118) #[] #[.pointer (some ⟨w.heap.size, 0, none⟩)]] w' fun e w'' => e = .returned (.bool (l.any (offB g.length))) ∧ Below w'.heap.size w' w'') := Lib.hid fun w' hb hc =>
  con_noded ⟨w.heap.size, 0, none⟩ l al cl (offB g.length) w' (hl.below hb) hl1 (fun j _ w'' hb2 => off_any _ (.inr rfl) _ w.heap.size a g.length cap w'' (keep hc hb2))
 clear hin hs hl
 by_cases hv : validE g = 0
 ·have hn : nodeE g l = if l.any (offB g.length) then 4 else 0 := by unfold nodeE; rw [if_pos hv]
  rw [hn]; rw [hv] at HV
  clear hn hv
  generalize l.any (offB g.length) = B at *
  cases B
  all_goals
   go_enter Tryz.func72, Tryz.ntmps72
   go_wp2_with fail
   refine (HV.out _ ((Below.refl _ _).alloc (Nat.le_refl _) _)).mono ?_; rintro e w1 ⟨rfl, hb1⟩
   have hc1 := bc hb1 (b := w.heap.size) (by simp)
   have hk1 : w1.cell? ⟨w.heap.size, 0, none⟩ = some (.slice a g.length cap) := by rw [hc1]; simp [go_sem]
   have HK := Lib.hid hk1
   have HB1 := Lib.hid (((Below.refl _ _).alloc (Nat.le_refl _) _).trans (hb1.mono (by simp)) : Below w.heap.size w w1)
   clear hc1 hb1
   go_wp2_with fail
   refine (HC.out _ HB1.out HK.out).mono ?_; rintro e w2 ⟨rfl, hb2⟩
   go_wp2_with fail
   go_ret
   exact ⟨rfl, HB1.out.trans (hb2.mono HB1.out.size)⟩
 ·have hn : nodeE g l = validE g := by unfold nodeE; rw [if_neg hv]
  rw [hn]
  clear hn
  generalize validE g = V at *
  have hvb : (V != 0) = true := by simpa using hv
  clear hv
  go_enter Tryz.func72, Tryz.ntmps72
  go_wp2_with fail
  refine (HV.out _ ((Below.refl _ _).alloc (Nat.le_refl _) _)).mono ?_; rintro e w1 ⟨rfl, hb1⟩
  have HB1 := Lib.hid (((Below.refl _ _).alloc (Nat.le_refl _) _).trans (hb1.mono (by simp)) : Below w.heap.size w w1)
  clear hb1
  go_wp2_with fail
  go_ret
  exact ⟨rfl, HB1.out⟩

end Go.Proofs.YtbbbflnnbbaamaaGreatDoor.FL


namespace Go.Proofs.YtbbbflnnbbaamaaGreatDoor.FL
open Go.RowKit

theorem notSeen_any (x : Int) (q : Nat) (S : NSet) (w : World) (hT : Ten w q S) (h0 : 0 ≤ x) (h1 : x < 10) :
  Calls Tryz.prog 167 #[.int .i64 x, .pointer (some ⟨q, 0, none⟩)] w fun e w' => e = .returned (.bool (!(S x.toNat))) ∧ Below w.heap.size w w' := by
 obtain ⟨x, rfl⟩ := Int.eq_ofNat_of_zero_le h0
 rw [Int.toNat_natCast]
 have hc := hT.cell (k := x) (by omega)
 clear hT
 go_enter Tryz.func167, Tryz.ntmps167
 go_wp2_with fail
 go_ret
 exact ⟨rfl, Below.refl _ _⟩

set_option maxRecDepth 100000 in
set_option maxHeartbeats 1000000 in
theorem reachedNodes_any (g : List (List Int)) (a : Option Addr) (cap : Nat) (l : List Int) (al : Option Addr) (cl : Nat) (w : World) (hin : RowsIn w a g) (hs : Short g) (hl : IntsIn w al l) (hl1 : l.length ≤ 1000) :
  Calls Tryz.prog 159 #[.slice a g.length cap, .slice al l.length cl] w fun e w' => e = .returned (.int .i64 (thereE g l)) ∧ Below w.heap.size w w' := by
 have HN := Lib.hid (noded_any g a cap l al cl w hin hs hl hl1)
 by_cases hv : nodeE g l = 0
 ·have hn : thereE g l = if l.any (fun x => !(rs (gN g) (-1) 0 x.toNat)) then 9 else 0 := by unfold thereE; rw [if_pos hv]
  have hval := node_valid hv
  rw [hn]; rw [hv] at HN
  clear hn hv
  have ok := valid_ok hval.1
  have h10 := ok.ten
  rw [gN_len] at h10
  have HR : Hid (∀ w', Below w.heap.size w w' → Calls Tryz.prog 119 #[.slice a g.length cap, .int .i64 (-1)] w' fun e w'' => e = .returned (tenV (rs (gN g) (-1) 0)) ∧ Below w'.heap.size w' w'') := Lib.hid fun w' hb => by
   have := reach_any a cap (gN g) (-1) w' ((hin.graph hval.1).below hb) ok
   rwa [gN_len] at this
  have HC : Hid (∀ w' q, Below w.heap.size w w' → Ten w' q (rs (gN g) (-1) 0) → Calls Tryz.prog 77 #[.slice al l.length cl, .func (.func 167) #[] #[.pointer (some ⟨q, 0, none⟩)]] w' fun e w'' => e = .returned (.bool (l.any (fun x => !(rs (gN g) (-1) 0 x.toNat)))) ∧ Below w'.heap.size w' w'') := Lib.hid fun w' q hb hT =>
   con_reached ⟨q, 0, none⟩ l al cl (fun x => !(rs (gN g) (-1) 0 x.toNat)) w' (hl.below hb) hl1 (fun j hj w'' hb2 => by
    have := hval.2 _ (getD_mem_any 0 hj)
    exact notSeen_any _ q _ w'' (hT.below hb2) this.1 (by omega))
  clear hin hs hl hval ok
  generalize hS : rs (gN g) (-1) 0 = S at *
  clear hS
  generalize l.any (fun x => !(S x.toNat)) = B at *
  cases B
  all_goals
   go_enter Tryz.func159, Tryz.ntmps159
   go_wp2_with fail
   refine HN.out.mono ?_; rintro e w1 ⟨rfl, hb1⟩
   go_wp2_with fail
   refine (HR.out _ hb1).mono ?_; rintro e w2 ⟨rfl, hb2⟩
   have HB2 := Lib.hid (hb1.trans (hb2.mono hb1.size)); clear hb1 hb2
   unfold tenV bools
   go_wp2_with fail
   refine (HC.out _ w2.heap.size (HB2.out.alloc HB2.out.size _) (heap_at _ _ _ rfl)).mono ?_; rintro e w3 ⟨rfl, hb3⟩
   go_wp2_with fail
   go_ret
   exact ⟨rfl, (HB2.out.alloc HB2.out.size _).trans (hb3.mono (by have := HB2.out.size; simp; omega))⟩
 ·have hn : thereE g l = nodeE g l := by unfold thereE; rw [if_neg hv]
  rw [hn]
  clear hn
  generalize nodeE g l = V at *
  have hvb : (V != 0) = true := by simpa using hv
  clear hv
  go_enter Tryz.func159, Tryz.ntmps159
  go_wp2_with fail
  refine HN.out.mono ?_; rintro e w1 ⟨rfl, hb1⟩
  go_wp2_with fail
  go_ret
  exact ⟨rfl, hb1⟩

end Go.Proofs.YtbbbflnnbbaamaaGreatDoor.FL


namespace Go.Proofs.YtbbbflnnbbaamaaGreatDoor.FL
open Go.RowKit

theorem NatSl.nil (w : World) : NatSl w (.slice none 0 0) [] := ⟨none, 0, rfl, fun _ hk => absurd hk (Nat.not_lt_zero _)⟩
noncomputable def reachedL (g : List (List Int)) : List Nat := if validE g = 0 then setL (rs (gN g) (-1) 0) else []
def beforeL (g : List (List Int)) (v : Int) : List Nat := if nodeE g [v] = 0 then setL (beforeS (gN g) v (gN g).length) else []
def ListPost (E : Int) (L : List Nat) (w : World) (e : Ending) (w' : World) : Prop := ∃ v, e = .returned (.tuple #[v, .int .i64 E]) ∧ NatSl w' v L ∧ Below w.heap.size w w'
theorem one_ints (w : World) (v : Int) : IntsIn (w.alloc (.cells #[.int .i64 v] 3)) (some ⟨w.heap.size, 0, none⟩) [v] := by
 intro k hk
 have hk : k < 1 := hk
 obtain rfl : k = 0 := by omega
 exact ⟨_, _, rfl, by simp [go_sem]⟩
theorem two_ints (w : World) (a b : Int) : IntsIn (w.alloc (.cells #[.int .i64 a, .int .i64 b] 3)) (some ⟨w.heap.size, 0, none⟩) [a, b] := by
 intro k hk
 have hk : k < 2 := hk
 match k, hk with
 | 0, _ => exact ⟨_, _, rfl, by simp [go_sem]⟩
 | 1, _ => exact ⟨_, _, rfl, by simp [go_sem]⟩

set_option maxHeartbeats 1000000 in
theorem Reached_any (g : List (List Int)) (a : Option Addr) (cap : Nat) (w : World) (hin : RowsIn w a g) (hs : Short g) :
  Calls Tryz.prog 115 #[.slice a g.length cap] w (ListPost (validE g) (reachedL g) w) := by
 have HV := Lib.hid (Validate_any g a cap w hin hs)
 by_cases hv : validE g = 0
 ·have hn : reachedL g = setL (rs (gN g) (-1) 0) := by unfold reachedL; rw [if_pos hv]
  have ok := valid_ok hv
  have HR : Hid (∀ w', Below w.heap.size w w' → Calls Tryz.prog 119 #[.slice a g.length cap, .int .i64 (-1)] w' fun e w'' => e = .returned (tenV (rs (gN g) (-1) 0)) ∧ Below w'.heap.size w' w'') := Lib.hid fun w' hb => by
   have := reach_any a cap (gN g) (-1) w' ((hin.graph hv).below hb) ok
   rwa [gN_len] at this
  rw [hn]; rw [hv] at HV; rw [hv]
  clear hin hs hv ok hn
  go_enter Tryz.func115, Tryz.ntmps115
  go_wp2_with fail
  refine HV.out.mono ?_; rintro e w1 ⟨rfl, hb1⟩
  go_wp2_with fail
  refine (HR.out _ hb1).mono ?_; rintro e w2 ⟨rfl, hb2⟩
  have HB2 := Lib.hid (hb1.trans (hb2.mono hb1.size)); clear hb1 hb2
  go_wp2_with fail
  refine (list_any _ _).mono ?_; rintro e w3 ⟨v, rfl, hv3, hb3⟩
  go_wp2_with fail
  go_ret2
  exact ⟨v, rfl, hv3, HB2.out.trans (hb3.mono HB2.out.size)⟩
 ·have hn : reachedL g = [] := by unfold reachedL; rw [if_neg hv]
  rw [hn]
  generalize validE g = V at *
  have hvb : (V != 0) = true := by simpa using hv
  clear hv hn
  go_enter Tryz.func115, Tryz.ntmps115
  go_wp2_with fail
  refine HV.out.mono ?_; rintro e w1 ⟨rfl, hb1⟩
  go_wp2_with fail
  go_ret2
  exact ⟨_, rfl, NatSl.nil _, hb1⟩

set_option maxHeartbeats 1000000 in
theorem Before_any (g : List (List Int)) (a : Option Addr) (cap : Nat) (v : Int) (w : World) (hin : RowsIn w a g) (hs : Short g) :
  Calls Tryz.prog 75 #[.slice a g.length cap, .int .i64 v] w (ListPost (nodeE g [v]) (beforeL g v) w) := by
 have hbl : Below w.heap.size w (w.alloc (.cells #[.int .i64 v] 3)) := (Below.refl _ _).alloc (Nat.le_refl _) _
 have HV := Lib.hid (noded_any g a cap [v] _ 1 _ (hin.below hbl) hs (one_ints w v) (by simp))
 by_cases hv : nodeE g [v] = 0
 ·have hn : beforeL g v = setL (beforeS (gN g) v (gN g).length) := by unfold beforeL; rw [if_pos hv]
  have hval := node_valid hv
  have ok := valid_ok hval.1
  have HR : Hid (∀ w', Below w.heap.size w w' → Calls Tryz.prog 121 #[.slice a g.length cap, .int .i64 v] w' fun e w'' => e = .returned (tenV (beforeS (gN g) v (gN g).length)) ∧ Below w'.heap.size w' w'') := Lib.hid fun w' hb => by
   have := before_any a cap (gN g) v w' ((hin.graph hval.1).below hb) ok
   rwa [gN_len] at this ⊢
  rw [hn]; rw [hv] at HV; rw [hv]
  clear hin hs hv ok hn hval hbl
  go_enter Tryz.func75, Tryz.ntmps75
  go_wp2_with fail
  refine HV.out.mono ?_; rintro e w1 ⟨rfl, hb1⟩
  have hb1 := ((Below.refl _ _).alloc (Nat.le_refl _) _).trans (hb1.mono (by simp) : Below w.heap.size _ w1)
  go_wp2_with fail
  refine (HR.out _ hb1).mono ?_; rintro e w2 ⟨rfl, hb2⟩
  have HB2 := Lib.hid (hb1.trans (hb2.mono hb1.size)); clear hb1 hb2
  go_wp2_with fail
  refine (list_any _ _).mono ?_; rintro e w3 ⟨v, rfl, hv3, hb3⟩
  go_wp2_with fail
  go_ret2
  exact ⟨v, rfl, hv3, HB2.out.trans (hb3.mono HB2.out.size)⟩
 ·have hn : beforeL g v = [] := by unfold beforeL; rw [if_neg hv]
  rw [hn]
  generalize nodeE g [v] = V at *
  have hvb : (V != 0) = true := by simpa using hv
  clear hv hn hbl
  go_enter Tryz.func75, Tryz.ntmps75
  go_wp2_with fail
  refine HV.out.mono ?_; rintro e w1 ⟨rfl, hb1⟩
  have hb1 := ((Below.refl _ _).alloc (Nat.le_refl _) _).trans (hb1.mono (by simp) : Below w.heap.size _ w1)
  go_wp2_with fail
  go_ret2
  exact ⟨_, rfl, NatSl.nil _, hb1⟩

end Go.Proofs.YtbbbflnnbbaamaaGreatDoor.FL


namespace Go.Proofs.YtbbbflnnbbaamaaGreatDoor.FL
open Go.RowKit

noncomputable def domB (g : Gr) (a b : Nat) : Bool := decide (a = b) || !(rs g (a : Nat) 0 b)
theorem domB_self (g : Gr) (a : Nat) : domB g a a = true := by simp [domB]

set_option maxHeartbeats 1000000 in
theorem dominates_any (g : Gr) (ga : Option Addr) (cap : Nat) (a b : Nat) (w : World) (hg : GraphIn w ga g) (ok : OkG g) (hb : b < g.length) :
  Calls Tryz.prog 146 #[.slice ga g.length cap, .int .i64 a, .int .i64 b] w fun e w' => e = .returned (.bool (domB g a b)) ∧ Below w.heap.size w w' := by
 have h10 := ok.ten
 by_cases hab : a = b
 ·subst hab
  rw [domB_self]
  clear hg
  go_enter Tryz.func146, Tryz.ntmps146
  go_wp2_with fail
  go_ret
  exact ⟨rfl, Below.refl _ _⟩
 ·have hd : domB g a b = !(rs g (a : Nat) 0 b) := by simp [domB, hab]
  have habb : ((a : Int) == (b : Int)) = false := by simp; omega
  rw [hd]
  have HR := Lib.hid (reach_any ga cap g a w hg ok)
  generalize rs g (a : Nat) 0 = S at *
  have hix := index_ten S b (by omega)
  clear hg hd hab
  go_enter Tryz.func146, Tryz.ntmps146
  go_wp2_with fail
  refine HR.out.mono ?_; rintro e w1 ⟨rfl, hb1⟩
  unfold tenV bools
  go_wp2_with fail
  go_ret
  exact ⟨rfl, hb1⟩
noncomputable def domR (g : List (List Int)) (a b : Int) : Bool := if thereE g [a, b] = 0 then domB (gN g) a.toNat b.toNat else false
theorem there_parts {g : List (List Int)} {l : List Int} (h : thereE g l = 0) : validE g = 0 ∧ (∀ x ∈ l, 0 ≤ x ∧ x < g.length) ∧ ∀ x ∈ l, rs (gN g) (-1) 0 x.toNat = true :=
 ⟨(node_valid (there_node h).1).1, (node_valid (there_node h).1).2, (there_node h).2⟩
set_option maxHeartbeats 1000000 in
theorem Dominates_any (g : List (List Int)) (ga : Option Addr) (cap : Nat) (a b : Int) (w : World) (hin : RowsIn w ga g) (hs : Short g) :
  Calls Tryz.prog 139 #[.slice ga g.length cap, .int .i64 a, .int .i64 b] w fun e w' => e = .returned (.tuple #[.bool (domR g a b), .int .i64 (thereE g [a, b])]) ∧ Below w.heap.size w w' := by
 have hbl : Below w.heap.size w (w.alloc (.cells #[.int .i64 a, .int .i64 b] 3)) := (Below.refl _ _).alloc (Nat.le_refl _) _
 have HV := Lib.hid (reachedNodes_any g ga cap [a, b] _ 2 _ (hin.below hbl) hs (two_ints w a b) (by simp))
 by_cases hv : thereE g [a, b] = 0
 ·obtain ⟨hval, hr, _⟩ := there_parts hv
  have ha := hr a (by simp); have hb := hr b (by simp)
  obtain ⟨a, rfl⟩ := Int.eq_ofNat_of_zero_le ha.1
  obtain ⟨b, rfl⟩ := Int.eq_ofNat_of_zero_le hb.1
  have hd : domR g a b = domB (gN g) a b := by unfold domR; rw [if_pos hv, Int.toNat_natCast, Int.toNat_natCast]
  have HR : Hid (∀ w', Below w.heap.size w w' → Calls Tryz.prog 146 #[.slice ga g.length cap, .int .i64 a, .int .i64 b] w' fun e w'' => e = .returned (.bool (domB (gN g) a b)) ∧ Below w'.heap.size w' w'') := Lib.hid fun w' hb' => by
   have := dominates_any (gN g) ga cap a b w' ((hin.graph hval).below hb') (valid_ok hval) (by rw [gN_len]; omega)
   rwa [gN_len] at this
  rw [hd]; rw [hv] at HV; rw [hv]
  clear hin hs hv hval hr ha hb hd
  generalize domB (gN g) a b = D at *
  go_enter Tryz.func139, Tryz.ntmps139
  go_wp2_with fail
  refine HV.out.mono ?_; rintro e w1 ⟨rfl, hb1⟩
  have hb1 := hbl.trans (hb1.mono (by simp))
  clear hbl
  go_wp2_with fail
  refine (HR.out _ hb1).mono ?_; rintro e w2 ⟨rfl, hb2⟩
  go_wp2_with fail
  go_ret2
  exact ⟨rfl, hb1.trans (hb2.mono hb1.size)⟩
 ·have hd : domR g a b = false := by unfold domR; rw [if_neg hv]
  rw [hd]
  clear hd
  generalize thereE g [a, b] = V at *
  have hvb : (V != 0) = true := by simpa using hv
  clear hv
  go_enter Tryz.func139, Tryz.ntmps139
  go_wp2_with fail
  refine HV.out.mono ?_; rintro e w1 ⟨rfl, hb1⟩
  have hb1 := hbl.trans (hb1.mono (by simp))
  clear hbl
  go_wp2_with fail
  go_ret2
  exact ⟨rfl, hb1⟩
end Go.Proofs.YtbbbflnnbbaamaaGreatDoor.FL
namespace Go.Proofs.YtbbbflnnbbaamaaGreatDoor.PK
open Go.RowKit

/-! ### Rounds reach all, plainly -/
open FL in
structure RndI (g : Gr) (but : Int) (S S' : NSet) (b : Nat) : Prop where
 sub : ∀ j, S j = true → S' j = true
 rch : ∀ j, S' j = true → ReachB g but 0 j
 don : ∀ u, u < b → S u = true → ∀ x ∈ succ g u, (x : Int) ≠ but → S' x = true
open FL in
structure RndO (g : Gr) (but : Int) (S : NSet) (r : Nat) : Prop where
 rch : ∀ j, S j = true → ReachB g but 0 j
 one : S 0 = true
 far : S = rs g but 0 ∨ cnt S + r + 1 ≤ 10
section
open FL
variable {g : Gr} {but : Int} {S S' : NSet} {r b : Nat}
theorem cnt_first : ∀ n, n ≤ 10 → cnt (fun j => decide (j < n)) = 10 - n := by decide
theorem cnt_more (h : ∀ j, S j = true → S' j = true) {j : Nat} (hj : j < 10) (h1 : S' j = true) (h2 : S j = false) : cnt S' < cnt S := by
 unfold cnt
 rw [← List.countP_eq_length_filter, ← List.countP_eq_length_filter]
 refine countP_lt (v := j) (fun i _ hi => ?_) (by simpa using hj) (by simp [h2]) (by simp [h1])
 have hi' : S' i = false := by simpa using hi
 simp only [Bool.not_eq_true']
 rw [← Bool.not_eq_true]
 intro c; rw [h i c] at hi'; cases hi'
theorem RndO.start (hb : (0 : Int) ≠ but) : RndO g but (FL.mark (fun _ => false) 0) 0 where
 rch j hj := by
  rcases FL.mark_cases hj with h | rfl
  ·cases h
  ·exact .here hb
 one := FL.mark_self _ _
 far := .inr (by have := cnt_mark (S := fun _ => false) (v := 0) (by omega) rfl; have := cnt_ten (fun _ => false); omega)
theorem RndO.round (h : RndO g but S r) : RndI g but S S 0 := ⟨fun _ h => h, h.rch, fun _ hu => absurd hu (Nat.not_lt_zero _)⟩
theorem RndI.done (ok : OkG g) (h : RndO g but S r) (h' : RndI g but S S' g.length) : RndO g but S' (r + 1) := by
 refine ⟨h'.rch, h'.sub 0 h.one, ?_⟩
 have h0 : (0 : Int) ≠ but := (h.rch 0 h.one).start
 by_cases hs : S = rs g but 0
 ·refine .inl (funext fun j => ?_)
  rw [Bool.eq_iff_iff, rs_iff]
  exact ⟨h'.rch j, fun hj => h'.sub j (by rw [hs, rs_iff]; exact hj)⟩
 ·have hc : cnt S + r + 1 ≤ 10 := h.far.resolve_left hs
  by_cases he : ∃ j, S' j = true ∧ S j = false
  ·obtain ⟨j, h1, h2⟩ := he
   have hj : j < g.length := (h'.rch j h1).lt ok.fits ok.pos
   have := ok.ten
   have := cnt_more h'.sub (j := j) (by omega) h1 h2
   exact .inr (by omega)
  ·have hn : ∀ j, S' j = true → S j = true := fun j hj => by
    cases hSj : S j
    ·exact absurd ⟨j, hj, hSj⟩ he
    ·rfl
   refine absurd (funext fun j => ?_) hs
   rw [Bool.eq_iff_iff, rs_iff]
   refine ⟨h.rch j, fun hj => ?_⟩
   refine hj.ind (fun j => S j = true) (fun _ => h.one) fun u x hu pu hx hb => hn x (h'.don u (hu.lt ok.fits ok.pos) pu x hx hb)
theorem RndO.all (ok : OkG g) (h : RndO g but S g.length) : S = rs g but 0 := by
 rcases h.far with e | e
 ·exact e
 ·exfalso
  have h1 := cnt_le (S := S) (T := fun j => decide (j < g.length)) fun j hj => decide_eq_true ((h.rch j hj).lt ok.fits ok.pos)
  rw [cnt_first _ ok.ten] at h1
  have := ok.ten
  omega
theorem RndI.mark (h : RndI g but S S' b) {x : Nat} (hb : S' b = true) (hx : x ∈ succ g b) (hn : (x : Int) ≠ but) : RndI g but S (FL.mark S' x) b where
 sub j hj := FL.mark_of (h.sub j hj)
 rch j hj := by
  rcases FL.mark_cases hj with c | rfl
  ·exact h.rch j c
  ·exact (h.rch b hb).step hx hn
 don u hu hs y hy hby := FL.mark_of (h.don u hu hs y hy hby)
theorem RndI.next (h : RndI g but S S' b) (hd : S' b = true → ∀ x ∈ succ g b, (x : Int) ≠ but → S' x = true) : RndI g but S S' (b + 1) where
 sub := h.sub
 rch := h.rch
 don u hu hs x hx hb := by
  by_cases e : u = b
  ·subst e; exact hd (h.sub _ hs) x hx hb
  ·exact h.don u (by omega) hs x hx hb
end
/-! ### Rows of Bools -/
def BlRow (w : World) (q n : Nat) (S : Nat → Bool) : Prop := w.heap[q]? = some (.cells (valArr n fun k => .bool (S k)) 4 (0, 0))
section
variable {w w' : World} {q n : Nat} {S : Nat → Bool}
theorem BlRow.cell (h : BlRow w q n S) {k : Nat} (hk : k < n) : w.cell? ⟨q, k, none⟩ = some (.bool (S k)) := by
 rw [cell_of_row w q k _ _ _ h]; exact valArr_get n _ k hk
theorem BlRow.free (h : BlRow w q n S) (k : Nat) : w.frozen? ⟨q, k, none⟩ = false := frozen_of_row w q k _ _ h
theorem BlRow.lt (h : BlRow w q n S) : q < w.heap.size := lt_of_block h
theorem BlRow.below (h : BlRow w q n S) (hb : Below w.heap.size w w') : BlRow w' q n S := by unfold BlRow; rw [hb.block q h.lt]; exact h
theorem BlRow.mark (h : BlRow w q n S) (v : Nat) : BlRow (w.setCell ⟨q, v, none⟩ (.bool true)) q n (FL.mark S v) := by
 unfold BlRow
 rw [heap_setCell_same w q v _ _ _ h, valArr_set]
 congr 3
 funext j
 unfold upd FL.mark
 by_cases e : j = v
 ·rw [if_pos e]; simp [e]
 ·rw [if_neg e]; simp [e]
end
end Go.Proofs.YtbbbflnnbbaamaaGreatDoor.PK
