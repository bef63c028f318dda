/- Walks of dominates, Dominates, both. -/
import Derived.Test.YtmljmmnofhhheaaWB
namespace Go.Proofs.Ytmljmmnofhhheaa
open Go.RowKit

/-- A node dominates another one that is reached. -/
noncomputable def domB (g : Gr) (a b : Nat) : Bool := decide (a = b) || !(rs g (a : Nat) 0 b)
theorem domB_self (g : Gr) (a : Nat) : domB g a a = true := by simp [domB]

set_option maxHeartbeats 1000000 in
theorem dominates_any (g : Gr) (ga : Option Addr) (cap : Nat) (a b : Nat) (w : World) (hg : GraphIn w ga g) (ok : OkG g) (hb : b < g.length) :
    Calls Try.prog 43 #[.slice ga g.length cap, .int .i64 a, .int .i64 b] w fun e w' => e = .returned (.bool (domB g a b)) ∧ Below w.heap.size w w' := by
  have h10 := ok.ten
  by_cases hab : a = b
  · subst hab
    rw [domB_self]
    clear hg
    go_enter Try.func43, Try.ntmps43
    go_wp2_with fail
    go_ret
    exact ⟨rfl, Below.refl _ _⟩
  · have hd : domB g a b = !(rs g (a : Nat) 0 b) := by simp [domB, hab]
    have habb : ((a : Int) == (b : Int)) = false := by simp; omega
    rw [hd]
    have HR := Lib.hid (reach_any ga cap g a w hg ok)
    generalize rs g (a : Nat) 0 = S at *
    have hix := index_ten S b (by omega)
    clear hg hd hab
    go_enter Try.func43, Try.ntmps43
    go_wp2_with fail
    refine HR.out.mono ?_; rintro e w1 ⟨rfl, hb1⟩
    unfold tenV bools
    go_wp2_with fail
    go_ret
    exact ⟨rfl, hb1⟩
set_option maxHeartbeats 1000000 in
theorem rDominates_any (g : Gr) (ga : Option Addr) (cap : Nat) (a b : Nat) (w : World) (hg : GraphIn w ga g) (ok : OkG g) (hb : b < g.length) :
    Calls Try.prog 49 #[.slice ga g.length cap, .int .i64 a, .int .i64 b] w fun e w' => e = .returned (.bool (domB g a b)) ∧ Below w.heap.size w w' := by
  have h10 := ok.ten
  by_cases hab : a = b
  · subst hab
    rw [domB_self]
    clear hg
    go_enter Try.func49, Try.ntmps49
    go_wp2_with fail
    go_ret
    exact ⟨rfl, Below.refl _ _⟩
  · have hd : domB g a b = !(rs g (a : Nat) 0 b) := by simp [domB, hab]
    have habb : ((a : Int) == (b : Int)) = false := by simp; omega
    rw [hd]
    have HR := Lib.hid (rReach_any ga cap g 0 a w hg ok ok.pos)
    generalize rs g (a : Nat) 0 = S at *
    clear hg hd hab
    go_enter Try.func49, Try.ntmps49
    go_wp2_with fail
    refine HR.out.mono ?_; rintro e w1 ⟨v, rfl, ⟨q, rcap, rfl, hbs⟩, hb1⟩
    have hc := hbs b hb
    clear hbs
    go_wp2_with fail
    go_ret
    exact ⟨rfl, hb1⟩

/-- What Dominates answers. -/
noncomputable def domR (g : List (List Int)) (a b : Int) : Bool := if thereE g [a, b] = 0 then domB (gN g) a.toNat b.toNat else false
theorem there_parts {g : List (List Int)} {l : List Int} (h : thereE g l = 0) : validE g = 0 ∧ (∀ x ∈ l, 0 ≤ x ∧ x < g.length) ∧ ∀ x ∈ l, rs (gN g) (-1) 0 x.toNat = true :=
  ⟨(node_valid (there_node h).1).1, (node_valid (there_node h).1).2, (there_node h).2⟩
set_option maxHeartbeats 1000000 in
theorem Dominates_any (g : List (List Int)) (ga : Option Addr) (cap : Nat) (a b : Int) (w : World) (hin : RowsIn w ga g) (hs : Short g) :
    Calls Try.prog 29 #[.slice ga g.length cap, .int .i64 a, .int .i64 b] w fun e w' => e = .returned (.tuple #[.bool (domR g a b), .int .i64 (thereE g [a, b])]) ∧ Below w.heap.size w w' := by
  have hbl : Below w.heap.size w (w.alloc (.cells #[.int .i64 a, .int .i64 b] 3)) := (Below.refl _ _).alloc (Nat.le_refl _) _
  have HV := Lib.hid (reachedNodes_any g ga cap [a, b] _ 2 _ (hin.below hbl) hs (two_ints w a b) (by simp))
  by_cases hv : thereE g [a, b] = 0
  · obtain ⟨hval, hr, _⟩ := there_parts hv
    have ha := hr a (by simp); have hb := hr b (by simp)
    obtain ⟨a, rfl⟩ := Int.eq_ofNat_of_zero_le ha.1
    obtain ⟨b, rfl⟩ := Int.eq_ofNat_of_zero_le hb.1
    have hd : domR g a b = domB (gN g) a b := by unfold domR; rw [if_pos hv, Int.toNat_natCast, Int.toNat_natCast]
    have HR : Hid (∀ w', Below w.heap.size w w' → Calls Try.prog 43 #[.slice ga g.length cap, .int .i64 a, .int .i64 b] w' fun e w'' => e = .returned (.bool (domB (gN g) a b)) ∧ Below w'.heap.size w' w'') := Lib.hid fun w' hb' => by
      have := dominates_any (gN g) ga cap a b w' ((hin.graph hval).below hb') (valid_ok hval) (by rw [gN_len]; omega)
      rwa [gN_len] at this
    rw [hd]; rw [hv] at HV; rw [hv]
    clear hin hs hv hval hr ha hb hd
    generalize domB (gN g) a b = D at *
    go_enter Try.func29, Try.ntmps29
    go_wp2_with fail
    refine HV.out.mono ?_; rintro e w1 ⟨rfl, hb1⟩
    have hb1 := hbl.trans (hb1.mono (by simp))
    clear hbl
    go_wp2_with fail
    refine (HR.out _ hb1).mono ?_; rintro e w2 ⟨rfl, hb2⟩
    go_wp2_with fail
    go_ret2
    exact ⟨rfl, hb1.trans (hb2.mono hb1.size)⟩
  · have hd : domR g a b = false := by unfold domR; rw [if_neg hv]
    rw [hd]
    clear hd
    generalize thereE g [a, b] = V at *
    have hvb : (V != 0) = true := by simpa using hv
    clear hv
    go_enter Try.func29, Try.ntmps29
    go_wp2_with fail
    refine HV.out.mono ?_; rintro e w1 ⟨rfl, hb1⟩
    have hb1 := hbl.trans (hb1.mono (by simp))
    clear hbl
    go_wp2_with fail
    go_ret2
    exact ⟨rfl, hb1⟩
set_option maxHeartbeats 1000000 in
theorem rrDominates_any (g : List (List Int)) (ga : Option Addr) (cap : Nat) (a b : Int) (w : World) (hin : RowsIn w ga g) (hs : Short g) :
    Calls Try.prog 30 #[.slice ga g.length cap, .int .i64 a, .int .i64 b] w fun e w' => e = .returned (.tuple #[.bool (domR g a b), .int .i64 (thereE g [a, b])]) ∧ Below w.heap.size w w' := by
  have hbl : Below w.heap.size w (w.alloc (.cells #[.int .i64 a, .int .i64 b] 3)) := (Below.refl _ _).alloc (Nat.le_refl _) _
  have HV := Lib.hid (rThere_any g ga cap [a, b] _ 2 _ (hin.below hbl) hs (two_ints w a b) (by simp))
  by_cases hv : thereE g [a, b] = 0
  · obtain ⟨hval, hr, _⟩ := there_parts hv
    have ha := hr a (by simp); have hb := hr b (by simp)
    obtain ⟨a, rfl⟩ := Int.eq_ofNat_of_zero_le ha.1
    obtain ⟨b, rfl⟩ := Int.eq_ofNat_of_zero_le hb.1
    have hd : domR g a b = domB (gN g) a b := by unfold domR; rw [if_pos hv, Int.toNat_natCast, Int.toNat_natCast]
    have HR : Hid (∀ w', Below w.heap.size w w' → Calls Try.prog 49 #[.slice ga g.length cap, .int .i64 a, .int .i64 b] w' fun e w'' => e = .returned (.bool (domB (gN g) a b)) ∧ Below w'.heap.size w' w'') := Lib.hid fun w' hb' => by
      have := rDominates_any (gN g) ga cap a b w' ((hin.graph hval).below hb') (valid_ok hval) (by rw [gN_len]; omega)
      rwa [gN_len] at this
    rw [hd]; rw [hv] at HV; rw [hv]
    clear hin hs hv hval hr ha hb hd
    generalize domB (gN g) a b = D at *
    go_enter Try.func30, Try.ntmps30
    go_wp2_with fail
    refine HV.out.mono ?_; rintro e w1 ⟨rfl, hb1⟩
    have hb1 := hbl.trans (hb1.mono (by simp))
    clear hbl
    go_wp2_with fail
    refine (HR.out _ hb1).mono ?_; rintro e w2 ⟨rfl, hb2⟩
    go_wp2_with fail
    go_ret2
    exact ⟨rfl, hb1.trans (hb2.mono hb1.size)⟩
  · have hd : domR g a b = false := by unfold domR; rw [if_neg hv]
    rw [hd]
    clear hd
    generalize thereE g [a, b] = V at *
    have hvb : (V != 0) = true := by simpa using hv
    clear hv
    go_enter Try.func30, Try.ntmps30
    go_wp2_with fail
    refine HV.out.mono ?_; rintro e w1 ⟨rfl, hb1⟩
    have hb1 := hbl.trans (hb1.mono (by simp))
    clear hbl
    go_wp2_with fail
    go_ret2
    exact ⟨rfl, hb1⟩
end Go.Proofs.Ytmljmmnofhhheaa
