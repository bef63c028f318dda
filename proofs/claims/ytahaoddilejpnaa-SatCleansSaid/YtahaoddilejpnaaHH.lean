/- Holds of both sides. -/
import Derived.Test.YtahaoddilejpnaaHV
import Derived.Deep.QuietTactic
namespace Go.Proofs.Ytahaoddilejpnaa
open Go.RowKit

theorem abs_lit (l : Int) (w : World) (h : -1000000 ≤ l ∧ l ≤ 1000000) : Calls Try.prog 44 #[.int .i64 l] w fun e w' => e = .returned (.int .i64 (l.natAbs : Nat)) ∧ w = w' := by
  go_enter Try.func44, Try.ntmps44
  go_wp2_with fail
  · go_ret
    exact ⟨ret_int (by omega), rfl⟩
  · go_ret
    exact ⟨ret_int (by omega), rfl⟩
theorem below_drewN {B : Nat} {w w' : World} (h : Below B w w') (n : Nat) : Below B w (w'.drewN n) := ⟨h.os, h.tape, h.output, h.size, h.block⟩
/-- The closure of holds. -/
theorem litT_any (Bm : Nat) (m : List Bool) (a : Option Addr) (cap : Nat) (l : Int) (w : World) (hc : w.cell? ⟨Bm, 0, none⟩ = some (.slice a m.length cap)) (hin : BoolsIn w a m) (hl : litB m.length l = true) (hm : m.length ≤ 5000) :
    Calls Try.prog 71 #[.int .i64 l, .pointer (some ⟨Bm, 0, none⟩)] w fun e w' => e = .returned (.bool (litT m l)) ∧ Below w.heap.size w w' := by
  have hb := lit_bds hl
  have HA : Hid (∀ w, Calls Try.prog 44 #[.int .i64 l] w fun e w' => e = .returned (.int .i64 (l.natAbs : Nat)) ∧ w' = w) := Lib.hid fun w => (abs_lit l w (by omega)).mono fun _ _ h => ⟨h.1, h.2.symm⟩
  obtain ⟨j, hj⟩ : ∃ j : Nat, l.natAbs = j + 1 := ⟨l.natAbs - 1, by omega⟩
  obtain ⟨b, off, rfl, hcb⟩ := hin j (by omega)
  have hT : litT m l = (m.getD j false == decide (0 < l)) := by unfold litT; rw [hj]; rfl
  have hjm : j < m.length := by omega
  rw [hT, show (l.natAbs : Int) = (j : Int) + 1 by omega] at *
  generalize m.getD j false = x at *
  generalize m.length = n at *
  have hs1 : (j : Int) + 1 - 1 = j := by omega
  have hwr : IntKind.i64.wrap ((j : Int) + 1 - 1) = j := by rw [hs1]; exact IntWalk.i64_in _ (by omega)
  have hjn : (j : Int) < (n : Int) := by omega
  have hj0 : (0 : Int) ≤ (j : Int) := by omega
  clear hin hl hb hj hT
  go_enter Try.func71, Try.ntmps71
  go_wp2_with fail
  go_quiet ((go_at_call 44; exact Calls.quiet_of_same (HA.out _)))
  go_wp2_with fail
  go_ret
  exact ⟨rfl, below_drewN (Below.refl _ _) _⟩
/-- The literals of clauses are literals over n variables. -/
def Lits (n : Int) (g : List (List Int)) : Prop := ∀ k, k < g.length → ∀ j, j < (g.getD k []).length → litB n ((g.getD k []).getD j 0) = true
set_option maxRecDepth 100000 in
set_option maxHeartbeats 1000000 in
theorem holds_any (g : List (List Int)) (m : List Bool) (a a2 : Option Addr) (cap cap2 : Nat) (w : World) (hin : RowsIn w a g) (hs : Short g) (hm : BoolsIn w a2 m) (hml : m.length ≤ 5000) (hlit : Lits m.length g) :
    Calls Try.prog 39 #[.slice a g.length cap, .slice a2 m.length cap2] w fun e w' => e = .returned (.bool (holdsB g m)) ∧ Below w.heap.size w w' := by
  have HI := Lib.hid hin; have HR := Lib.hid hs.row; have hl := hs.len; have HM := Lib.hid hm; have HT := Lib.hid hlit; have HML := Lib.hid hml
  clear hin hs hm hlit hml
  have hb0 : Below w.heap.size w (w.alloc (.cells #[.slice a2 m.length cap2] 25)) := (Below.refl _ _).alloc (Nat.le_refl _) _
  have HB0 := Lib.hid hb0; clear hb0
  have hcn : (w.alloc (.cells #[.slice a2 m.length cap2] 25)).cell? ⟨w.heap.size, 0, none⟩ = some (.slice a2 m.length cap2) := by simp [go_sem]
  have HCN := Lib.hid hcn; clear hcn
  have HE : Hid (holdsB g m = g.all fun k => k.any (litT m)) := Lib.hid rfl
  generalize hq : m.length = q at *
  have HQ := Lib.hid hq; clear hq
  go_enter Try.func39, Try.ntmps39
  go_wp2_with fail
  go_loopw [9] (fun i wr => ∃ k : Nat, k ≤ g.length ∧ i = .int .i64 k ∧ Below (w.heap.size + 1) (w.alloc (.cells #[.slice a2 q cap2] 25)) wr ∧ ∀ j, j < k → (g.getD j []).any (litT m) = true) (fun i _ => g.length - (intOf i).toNat)
  case atStart => exact ⟨0, Nat.zero_le _, rfl, Below.refl _ _, fun j hj => absurd hj (Nat.not_lt_zero _)⟩
  case round =>
    obtain ⟨k, hk, rfl, hb, hny⟩ := hrel
    have HN := Lib.hid hny; have HB := Lib.hid hb
    have hcn := keep HCN.out (hb.mono (by simp))
    have HCN2 := Lib.hid hcn
    have HM2 := Lib.hid ((HM.out.below HB0.out).below (hb.mono (by simp)))
    clear hny hb hcn
    by_cases hlt : k < g.length
    · obtain ⟨b, off, a', cap', rfl, hc, _, _, hi⟩ := (HI.out.below HB0.out).below (HB.out.mono (by simp)) k hlt
      have hr := HR.out k hlt
      have HC := Lib.hid (conI_any 71 #[.pointer (some ⟨w.heap.size, 0, none⟩)] (fun _ _ => rfl) (litT m) (g.getD k []) a' cap' wr hi (by omega) fun j W hj hbW => litT_any w.heap.size m a2 cap2 _ W (keep (by rw [HQ.out]; exact HCN2.out) hbW) (HM2.out.below hbW) (by rw [HQ.out]; exact HT.out k hlt j hj) (by rw [HQ.out]; exact HML.out))
      clear hi
      generalize hx : (g.getD k []).any (litT m) = x at *
      have HX := Lib.hid hx; clear hx
      generalize (g.getD k []).length = mm at *
      go_wp2_with fail
      refine HC.out.mono ?_; rintro e w2 ⟨rfl, hb2⟩
      have HB2 := Lib.hid (HB.out.trans (hb2.mono (by simpa using HB.out.size)))
      clear hb2
      cases x
      · have HA := Lib.hid (all_at (p := fun k => k.any (litT m)) [] hlt HX.out)
        go_wp2_with fail
        go_ret
        exact ⟨ret_bool (by rw [HE.out, HA.out]), HB0.out.trans (HB2.out.mono (by simp))⟩
      · go_wp2_with fail
        go_roundw
        case rel => exact ⟨k + 1, by omega, by go_num, HB2.out, fun j hj => by
          by_cases e : j = k
          · rw [e]; exact HX.out
          · exact HN.out j (by omega)⟩
        case measure => simp [intOf]; omega
    · have HA := Lib.hid (all_every (p := fun k => k.any (litT m)) [] hlt HN.out)
      have hk2 : k = g.length := by omega
      go_wp2_with fail
      go_ret
      exact ⟨ret_bool (by rw [HE.out, HA.out]), HB0.out.trans (HB.out.mono (by simp))⟩
def holdV (n : Int) (g : List (List Int)) (m : List Bool) : Bool := if validE n g = 0 then (if (m.length : Int) = n then holdsB g m else false) else false
def holdC (n : Int) (g : List (List Int)) (m : List Bool) : Int := if validE n g = 0 then (if (m.length : Int) = n then 0 else 1) else validE n g
set_option maxRecDepth 100000 in
theorem Holds_any (n : Int) (g : List (List Int)) (m : List Bool) (a a2 : Option Addr) (cap cap2 : Nat) (w : World) (hin : RowsIn w a g) (hs : Short g) (hm : BoolsIn w a2 m) (hml : m.length ≤ 5000) :
    Calls Try.prog 17 #[.int .i64 n, .slice a g.length cap, .slice a2 m.length cap2] w fun e w' => e = .returned (.tuple #[.bool (holdV n g m), .int .i64 (holdC n g m)]) ∧ Below w.heap.size w w' := by
  have HV := Lib.hid (sValidate_any n g a cap w hin hs)
  have HH : Hid (∀ W, Below w.heap.size w W → validE n g = 0 → (m.length : Int) = n → Calls Try.prog 39 #[.slice a g.length cap, .slice a2 m.length cap2] W fun e w' => e = .returned (.bool (holdsB g m)) ∧ Below W.heap.size W w') :=
    Lib.hid fun W hb hv hn => holds_any g m a a2 cap cap2 W (hin.below hb) hs (hm.below hb) hml (by rw [hn]; exact (validE_ok hv).2.2)
  have hE1 : holdV n g m = if validE n g = 0 then (if (m.length : Int) = n then holdsB g m else false) else false := rfl
  have hE2 : holdC n g m = if validE n g = 0 then (if (m.length : Int) = n then 0 else 1) else validE n g := rfl
  rw [hE1, hE2]
  clear hin hm hE1 hE2 hs
  generalize validE n g = e at *
  generalize holdsB g m = b at *
  generalize m.length = q at *
  generalize g.length = p at *
  go_enter Try.func17, Try.ntmps17
  go_wp2_with fail
  refine HV.out.mono ?_; rintro e w2 ⟨rfl, hb2⟩
  by_cases he : e = 0
  · subst he
    by_cases hn : (q : Int) = n
    · have HH2 := Lib.hid (HH.out w2 hb2 rfl hn)
      subst hn
      go_wp2_with fail
      refine HH2.out.mono ?_; rintro e w3 ⟨rfl, hb3⟩
      go_wp2_with fail
      go_ret2
      exact ⟨rfl, hb2.trans (hb3.mono hb2.size)⟩
    · have hn' : ((q : Int) != n) = true := by simpa using hn
      go_wp2_with fail
      go_ret2
      exact ⟨rfl, hb2⟩
  · have he' : (e != 0) = true := by simpa using he
    go_wp2_with fail
    go_ret2
    exact ⟨rfl, hb2⟩
end Go.Proofs.Ytahaoddilejpnaa
