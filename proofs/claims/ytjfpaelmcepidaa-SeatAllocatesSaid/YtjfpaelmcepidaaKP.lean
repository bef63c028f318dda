/- Programs in memory; the walks of size and of Validate's closure. -/
import Derived.Test.YtjfpaelmcepidaaKU
namespace Go.Proofs.Ytjfpaelmcepidaa.PK
open Go.RowKit

def atB (ls : List (List Cd)) (k : Nat) : List Cd := ls.getD k []
theorem atB_get {ls : List (List Cd)} {k : Nat} (h : k < ls.length) : atB ls k = ls[k] := by
  unfold atB
  rw [List.getD_eq_getElem?_getD, List.getElem?_eq_getElem h]; rfl
/-- The cells of a slice are these blocks. -/
def BlkIn (w : World) (bl : Option Addr) (ls : List (List Cd)) : Prop :=
  ∀ k, k < ls.length → ∃ b off a cap, bl = some ⟨b, off, none⟩ ∧ w.cell? ⟨b, off + k, none⟩ = some (.slice a (atB ls k).length cap) ∧ CdsIn w a (atB ls k)
theorem BlkIn.below {w w' : World} {bl : Option Addr} {ls : List (List Cd)} (h : BlkIn w bl ls) (hb : Below w.heap.size w w') : BlkIn w' bl ls := fun k hk => by
  obtain ⟨b, off, a, cap, rfl, hc, hi⟩ := h k hk
  exact ⟨b, off, a, cap, rfl, keep hc hb, hi.below hb⟩
def sumL : List (List Cd) → Nat
  | [] => 0
  | l :: ls => l.length + sumL ls
theorem sumL_app (a b : List (List Cd)) : sumL (a ++ b) = sumL a + sumL b := by
  induction a with
  | nil => simp [sumL]
  | cons x a ih => simp only [List.cons_append, sumL, ih]; omega
theorem sumL_take {ls : List (List Cd)} {k : Nat} (h : k < ls.length) : sumL (ls.take (k + 1)) = sumL (ls.take k) + (atB ls k).length := by
  rw [List.take_succ_eq_append_getElem h, sumL_app, atB_get h]
  simp [sumL]
theorem sumL_small {ls : List (List Cd)} {m : Nat} (h : ∀ k, k < ls.length → (atB ls k).length ≤ m) : ∀ k, k ≤ ls.length → sumL (ls.take k) ≤ k * m
  | 0, _ => by simp [sumL]
  | k + 1, hk => by
    rw [sumL_take (by omega)]
    have := sumL_small h k (by omega)
    have := h k (by omega)
    rw [Nat.succ_mul]; omega

set_option maxHeartbeats 1000000 in
theorem size_any (regs : Int) (ls : List (List Cd)) (bl : Option Addr) (cap : Nat) (w : World) (hin : BlkIn w bl ls) (hl : ls.length ≤ 400) (hm : ∀ k, k < ls.length → (atB ls k).length ≤ 1099511627776) :
    Calls Try.prog 45 #[.agg #[.int .i64 regs, .slice bl ls.length cap]] w fun e w' => e = .returned (.int .i64 (sumL ls)) ∧ Below w.heap.size w w' := by
  have HI := Lib.hid hin; have HM := Lib.hid hm
  have HS := Lib.hid (sumL_small hm)
  clear hin hm
  go_enter Try.func45, Try.ntmps45
  go_wp2_with fail
  generalize hw0 : w.alloc _ = w0
  have hb0 : Below w.heap.size w w0 := by rw [← hw0]; exact (Below.refl _ _).alloc (Nat.le_refl _) _
  clear hw0
  go_loopw [3, 9] (fun n i wr => ∃ k : Nat, k ≤ ls.length ∧ n = .int .i64 (sumL (ls.take k)) ∧ i = .int .i64 k ∧ Below w.heap.size w wr) (fun _ i _ => ls.length - (intOf i).toNat)
  case atStart => exact ⟨0, Nat.zero_le _, by simp [sumL], rfl, hb0⟩
  case round =>
    obtain ⟨k, hk, rfl, rfl, hb⟩ := hrel
    have HB := Lib.hid hb
    by_cases hlt : k < ls.length
    · obtain ⟨b, off, a, cp, rfl, hc, _⟩ := HI.out.below hb k hlt
      clear hb
      have hs1 := HS.out k (by omega)
      have hs3 := HM.out k hlt
      have HT := Lib.hid (sumL_take hlt)
      generalize hsk : sumL (ls.take k) = sk at *
      generalize hbl : (atB ls k).length = m at *
      clear hsk hbl
      go_wp2_with fail
      go_roundw
      case rel => exact ⟨k + 1, by omega, by rw [HT.out]; go_num, by go_num, HB.out⟩
      case measure => simp [intOf]; omega
    · clear hb
      have hkl : k = ls.length := by omega
      subst hkl
      rw [List.take_length] 
      go_wp2_with fail
      go_ret
      exact ⟨rfl, HB.out⟩
theorem isCode_to (x : Cd) (regs blocks : Int) (w : World) : Calls Try.prog 48 #[(.agg #[.int .i64 x.op, .int .i64 x.d, .int .i64 x.a, .int .i64 x.b, .int .u32 x.im, .int .i64 x.to]), .int .i64 regs, .int .i64 blocks] w fun e w' => e = .returned (.bool (isCodeB x regs blocks)) ∧ Below w.heap.size w w' := isCode_any x regs blocks w
set_option maxHeartbeats 1000000 in
theorem vcl_any (x : Cd) (regs : Int) (bl : Option Addr) (n cap : Nat) (q : Nat) (w : World) (h0 : w.cell? ⟨q, 0, none⟩ = some (.int .i64 regs)) (h1 : w.cell? ⟨q, 1, none⟩ = some (.slice bl n cap)) :
    Calls Try.prog 47 #[(.agg #[.int .i64 x.op, .int .i64 x.d, .int .i64 x.a, .int .i64 x.b, .int .u32 x.im, .int .i64 x.to]), .pointer (some ⟨q, 0, none⟩)] w fun e w' => e = .returned (.bool (!isCodeB x regs n)) ∧ Below w.heap.size w w' := by
  have HC := Lib.hid (isCode_to x regs n)
  have HX := Lib.hid (cdAt_new w x 68)
  have HB0 := Lib.hid ((Below.refl w.heap.size w).alloc (Nat.le_refl _) (.cells #[.int .i64 x.op, .int .i64 x.d, .int .i64 x.a, .int .i64 x.b, .int .u32 x.im, .int .i64 x.to] 68))
  have h0' := keep h0 HB0.out
  have h1' := keep h1 HB0.out
  clear h0 h1
  generalize isCodeB x regs n = b at *
  obtain ⟨x0, x1, x2, x3, x4, x5⟩ := x
  have HX : Hid (CdAt (w.alloc (.cells #[.int .i64 x0, .int .i64 x1, .int .i64 x2, .int .i64 x3, .int .u32 x4, .int .i64 x5] 68)) w.heap.size 0 ⟨x0, x1, x2, x3, x4, x5⟩) := HX
  have HB0 : Hid (Below w.heap.size w (w.alloc (.cells #[.int .i64 x0, .int .i64 x1, .int .i64 x2, .int .i64 x3, .int .u32 x4, .int .i64 x5] 68))) := HB0
  have HC : Hid (∀ w : World, Calls Try.prog 48 #[.agg #[.int .i64 x0, .int .i64 x1, .int .i64 x2, .int .i64 x3, .int .u32 x4, .int .i64 x5], .int .i64 regs, .int .i64 n] w fun e w' => e = .returned (.bool b) ∧ Below w.heap.size w w') := HC
  have h0 : (w.alloc (.cells #[.int .i64 x0, .int .i64 x1, .int .i64 x2, .int .i64 x3, .int .u32 x4, .int .i64 x5] 68)).cell? ⟨q, 0, none⟩ = some (.int .i64 regs) := h0'
  have h1 : (w.alloc (.cells #[.int .i64 x0, .int .i64 x1, .int .i64 x2, .int .i64 x3, .int .u32 x4, .int .i64 x5] 68)).cell? ⟨q, 1, none⟩ = some (.slice bl n cap) := h1'
  clear h0' h1'
  go_enter Try.func47, Try.ntmps47
  go_wp2_with fail
  generalize w.alloc (.cells #[.int .i64 x0, .int .i64 x1, .int .i64 x2, .int .i64 x3, .int .u32 x4, .int .i64 x5] 68) = w0 at *
  obtain ⟨c0, c1, c2, c3, c4, c5⟩ := HX.out
  simp only at c0 c1 c2 c3 c4 c5
  go_wp2_with fail
  refine (HC.out _).mono ?_; rintro e w1 ⟨rfl, hb1⟩
  have HB1 := Lib.hid (HB0.out.trans (hb1.mono HB0.out.size))
  clear hb1
  go_wp2_with fail
  go_ret
  exact ⟨rfl, HB1.out⟩
end Go.Proofs.Ytjfpaelmcepidaa.PK
