/- Walks of backs, Backs, Critical. -/
import Derived.Test.YtmljmmnofhhheaaWF
namespace Go.Proofs.Ytmljmmnofhhheaa
open Go.RowKit

/-- The edges again, by going over all nodes. -/
theorem edgesL_range {g : Gr} (ok : OkG g) (good : Nat → Nat → Bool) : edgesUpto g (fun a b => rs g (-1) 0 a && good a b) (List.range g.length) g.length = edgesL g good := by
  unfold edgesL
  rw [← setUpto_ten (n := g.length) (fun j h => rs_out (but := -1) ok ok.pos h) ok.ten]
  generalize rs g (-1) 0 = S
  unfold edgesUpto
  rw [List.take_of_length_le (by simp), List.take_length]
  have h : ∀ n, (List.range n).flatMap (fun a => rowE g (fun a b => S a && good a b) a g.length) = (setUpto S n).flatMap (fun a => rowE g good a g.length) := by
    intro n
    induction n with
    | zero => rfl
    | succ n ih =>
      rw [List.range_succ, List.flatMap_append, ih]
      cases hs : S n
      · rw [setUpto_no hs]
        have : rowE g (fun a b => S a && good a b) n g.length = [] := by
          unfold rowE setUpto
          rw [List.map_eq_nil_iff, List.filter_eq_nil_iff]
          intro b _
          simp [hs]
        simp [this]
      · rw [setUpto_yes hs, List.flatMap_append]
        have : rowE g (fun a b => S a && good a b) n g.length = rowE g good n g.length := by
          unfold rowE setUpto
          simp [hs]
        simp [this]
  exact h _
theorem range_getD {n k : Nat} (h : k < n) : (List.range n).getD k 0 = k := by simp [h]

noncomputable def backsL (g : Gr) : Pairs := edgesL g (goodBack g)
noncomputable def critL (g : Gr) : Pairs := edgesL g (goodCrit g)
def PairPost (L : Pairs) (w : World) (e : Ending) (w' : World) : Prop := ∃ v, e = .returned v ∧ PairSl w' v L ∧ Below w.heap.size w w'
def PairsPost (E : Int) (L : Pairs) (w : World) (e : Ending) (w' : World) : Prop := ∃ v, e = .returned (.tuple #[v, .int .i64 E]) ∧ PairSl w' v L ∧ Below w.heap.size w w'

set_option maxHeartbeats 1000000 in
theorem backs_any (a : Option Addr) (cap : Nat) (g : Gr) (w : World) (hg : GraphIn w a g) (ok : OkG g) :
    Calls Try.prog 63 #[.slice a g.length cap] w (PairPost (backsL g) w) := by
  have hbl : Below w.heap.size w (w.alloc (.cells #[.slice a g.length cap] 22)) := (Below.refl _ _).alloc (Nat.le_refl _) _
  have HE := Lib.hid (edges_backs w.heap.size a cap g (goodBack g) _ (hg.below hbl) ok (fun x y w' hx hy hb =>
    backs1_any x y w.heap.size g a cap w' (by rw [bc hb (b := w.heap.size) (by simp)]; simp [go_sem]) ((hg.below hbl).below hb) ok hx))
  unfold backsL
  clear hg
  go_enter Try.func63, Try.ntmps63
  go_wp2_with fail
  refine HE.out.mono ?_; rintro e w1 ⟨v, rfl, hp, hb1⟩
  go_wp2_with fail
  go_ret
  exact ⟨v, rfl, hp, hbl.trans (hb1.mono hbl.size)⟩

noncomputable def backsR (g : List (List Int)) : Pairs := if validE g = 0 then backsL (gN g) else []
noncomputable def critR (g : List (List Int)) : Pairs := if validE g = 0 then critL (gN g) else []
set_option maxHeartbeats 1000000 in
theorem Backs_any (g : List (List Int)) (a : Option Addr) (cap : Nat) (w : World) (hin : RowsIn w a g) (hs : Short g) :
    Calls Try.prog 27 #[.slice a g.length cap] w (PairsPost (validE g) (backsR g) w) := by
  have HV := Lib.hid (Validate_any g a cap w hin hs)
  by_cases hv : validE g = 0
  · have hn : backsR g = backsL (gN g) := by unfold backsR; rw [if_pos hv]
    have ok := valid_ok hv
    have HR : Hid (∀ w', Below w.heap.size w w' → Calls Try.prog 63 #[.slice a g.length cap] w' (PairPost (backsL (gN g)) w')) := Lib.hid fun w' hb => by
      have := backs_any a cap (gN g) w' ((hin.graph hv).below hb) ok
      rwa [gN_len] at this
    rw [hn]; rw [hv] at HV; rw [hv]
    clear hin hs hv ok hn
    go_enter Try.func27, Try.ntmps27
    go_wp2_with fail
    refine HV.out.mono ?_; rintro e w1 ⟨rfl, hb1⟩
    go_wp2_with fail
    refine (HR.out _ hb1).mono ?_; rintro e w2 ⟨v, rfl, hp, hb2⟩
    go_wp2_with fail
    go_ret2
    exact ⟨v, rfl, hp, hb1.trans (hb2.mono hb1.size)⟩
  · have hn : backsR g = [] := by unfold backsR; rw [if_neg hv]
    rw [hn]
    generalize validE g = V at *
    have hvb : (V != 0) = true := by simpa using hv
    clear hv hn
    go_enter Try.func27, Try.ntmps27
    go_wp2_with fail
    refine HV.out.mono ?_; rintro e w1 ⟨rfl, hb1⟩
    go_wp2_with fail
    go_ret2
    exact ⟨_, rfl, PairSl.nil _, hb1⟩

set_option maxHeartbeats 1000000 in
theorem Critical_any (g : List (List Int)) (a : Option Addr) (cap : Nat) (w : World) (hin : RowsIn w a g) (hs : Short g) :
    Calls Try.prog 15 #[.slice a g.length cap] w (PairsPost (validE g) (critR g) w) := by
  have hbl : Below w.heap.size w (w.alloc (.cells #[.slice a g.length cap] 22)) := (Below.refl _ _).alloc (Nat.le_refl _) _
  have hc0 : (w.alloc (.cells #[.slice a g.length cap] 22)).cell? ⟨w.heap.size, 0, none⟩ = some (.slice a g.length cap) := by simp [go_sem]
  have HV := Lib.hid (Validate_any g a cap _ (hin.below hbl) hs)
  by_cases hv : validE g = 0
  · have hn : critR g = edgesL (gN g) (goodCrit (gN g)) := by unfold critR critL; rw [if_pos hv]
    have ok := valid_ok hv
    have HR : Hid (∀ w', Below (w.heap.size + 1) (w.alloc (.cells #[.slice a g.length cap] 22)) w' → Calls Try.prog 41 #[.slice a g.length cap, .func (.func 51) #[] #[.pointer (some ⟨w.heap.size, 0, none⟩)]] w' (PairPost (edgesL (gN g) (goodCrit (gN g))) w')) := Lib.hid fun w' hb => by
      have hgg := ((hin.graph hv).below hbl).below (hb.mono (by simp) : Below (w.alloc (.cells #[.slice a g.length cap] 22)).heap.size _ _)
      have := edges_crit w.heap.size a cap (gN g) (goodCrit (gN g)) w' hgg ok (fun x y w2 hx hy hb2 =>
        crit1_any x y w.heap.size (gN g) a cap w2 (keep (by rw [hb.cell (p := ⟨w.heap.size, 0, none⟩) (by simp), gN_len]; exact hc0) hb2) (hgg.below hb2) ok hx)
      rwa [gN_len] at this
    rw [hn]; rw [hv] at HV; rw [hv]
    clear hin hs hv ok hn hc0
    go_enter Try.func15, Try.ntmps15
    go_wp2_with fail
    refine HV.out.mono ?_; rintro e w1 ⟨rfl, hb1⟩
    have hc1 : w1.cell? ⟨w.heap.size, 0, none⟩ = some (.slice a g.length cap) := by rw [bc hb1 (b := w.heap.size) (by simp)]; simp [go_sem]
    have HR1 := Lib.hid (HR.out _ (hb1.mono (by simp)))
    go_wp2_with fail
    refine HR1.out.mono ?_; rintro e w2 ⟨v, rfl, hp, hb2⟩
    go_wp2_with fail
    go_ret2
    have hb1' := hbl.trans (hb1.mono hbl.size)
    exact ⟨v, rfl, hp, hb1'.trans (hb2.mono hb1'.size)⟩
  · have hn : critR g = [] := by unfold critR; rw [if_neg hv]
    rw [hn]
    generalize validE g = V at *
    have hvb : (V != 0) = true := by simpa using hv
    clear hv hn hc0
    go_enter Try.func15, Try.ntmps15
    go_wp2_with fail
    refine HV.out.mono ?_; rintro e w1 ⟨rfl, hb1⟩
    go_wp2_with fail
    go_ret2
    exact ⟨_, rfl, PairSl.nil _, hbl.trans (hb1.mono hbl.size)⟩
end Go.Proofs.Ytmljmmnofhhheaa
