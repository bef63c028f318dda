/- Walks of what IsReducible asks of the forward edges. -/
import Derived.Test.YtmljmmnofhhheaaWI
namespace Go.Proofs.Ytmljmmnofhhheaa
open Go.RowKit

/-- An edge to a node from one that is left. -/
def hitB (S : NSet) (v : Nat) (e : Nat × Nat) : Bool := decide (e.2 = v) && S e.1
set_option maxHeartbeats 1000000 in
theorem hit_any (S : NSet) (v x y pv q : Nat) (w : World) (hv : w.cell? ⟨pv, 0, none⟩ = some (.int .i64 v)) (hT : Ten w q S) (hx : x < 10) :
    Calls Try.prog 47 #[.agg #[.int .i64 x, .int .i64 y], .pointer (some ⟨pv, 0, none⟩), .pointer (some ⟨q, 0, none⟩)] w fun e w' => e = .returned (.bool (hitB S v (x, y))) ∧ Below w.heap.size w w' := by
  have hc := hT.cell hx
  have hpl := block_lt_of_cell hv
  have hql := hT.lt
  unfold hitB
  clear hT
  by_cases hy : y = v
  · subst hy
    have e : (decide ((x, y).2 = y) && S (x, y).1) = S x := by simp
    rw [e]
    clear e
    go_enter Try.func47, Try.ntmps47
    go_wp2_with fail
    go_ret
    exact ⟨rfl, (Below.refl _ _).alloc (Nat.le_refl _) _⟩
  · have e : (decide ((x, y).2 = v) && S (x, y).1) = false := by simp [hy]
    have hyb : ((y : Int) == (v : Int)) = false := by simp; omega
    rw [e]
    clear e hy
    go_enter Try.func47, Try.ntmps47
    go_wp2_with fail
    go_ret
    exact ⟨rfl, (Below.refl _ _).alloc (Nat.le_refl _) _⟩

def PairsIn (w : World) (a : Option Addr) (ps : Pairs) : Prop := ∀ k, k < ps.length → ∃ b off, a = some ⟨b, off, none⟩ ∧ w.cell? ⟨b, off + k * 2, none⟩ = some (.int .i64 ((ps.getD k (0, 0)).1 : Nat)) ∧ w.cell? ⟨b, off + k * 2 + 1, none⟩ = some (.int .i64 ((ps.getD k (0, 0)).2 : Nat))
theorem PairsIn.below {w w' : World} {a : Option Addr} {ps : Pairs} (h : PairsIn w a ps) (hb : Below w.heap.size w w') : PairsIn w' a ps := fun k hk => by
  obtain ⟨b, off, rfl, h1, h2⟩ := h k hk
  exact ⟨b, off, rfl, keep h1 hb, keep h2 hb⟩

set_option maxHeartbeats 1000000 in
theorem idx_hit (S : NSet) (v pv q : Nat) (xs : Pairs) (a : Option Addr) (cap : Nat) (w : World) (hin : PairsIn w a xs) (hl : xs.length ≤ 1000)
    (h10 : ∀ e ∈ xs, e.1 < 10) (hv : w.cell? ⟨pv, 0, none⟩ = some (.int .i64 v)) (hT : Ten w q S) :
    Calls Try.prog 73 #[.slice a xs.length cap, .func (.func 47) #[] #[.pointer (some ⟨pv, 0, none⟩), .pointer (some ⟨q, 0, none⟩)]] w (AnyPost xs (hitB S v) w) := by
  have HI := Lib.hid hin
  have HP : Hid (∀ k w', k < xs.length → Below w.heap.size w w' → Calls Try.prog 47 #[.agg #[.int .i64 ((xs.getD k (0, 0)).1 : Nat), .int .i64 ((xs.getD k (0, 0)).2 : Nat)], .pointer (some ⟨pv, 0, none⟩), .pointer (some ⟨q, 0, none⟩)] w' fun e w'' => e = .returned (.bool (hitB S v (xs.getD k (0, 0)))) ∧ Below w'.heap.size w' w'') := Lib.hid fun k w' hk hb =>
    hit_any S v _ _ pv q w' (keep hv hb) (hT.below hb) (h10 _ (getD_mem_any _ hk))
  clear hin hv hT h10
  generalize hitB S v = p at *
  go_enter Try.func73, Try.ntmps73
  go_wp2_with fail
  go_loopw [8] (fun i wr => ∃ k : Nat, k ≤ xs.length ∧ i = .int .i64 k ∧ NoneYet xs p k ∧ Below w.heap.size w wr) (fun i _ => xs.length - (intOf i).toNat)
  case atStart => exact ⟨0, Nat.zero_le _, rfl, NoneYet.zero, Below.refl _ _⟩
  case round =>
    obtain ⟨k, hk, rfl, hny, hb⟩ := hrel
    by_cases hlt : k < xs.length
    · have HB := Lib.hid hb; have HN := Lib.hid hny; clear hny
      obtain ⟨b, off, rfl, hc1, hc2⟩ := HI.out.below hb k hlt
      have HC := Lib.hid (HP.out k wr hlt hb)
      clear hb
      generalize hx : xs.getD k (0, 0) = x at *
      have HX := Lib.hid hx; clear hx
      obtain ⟨x1, x2⟩ := x
      have hc1 : wr.cell? ⟨b, off + k * 2, none⟩ = some (.int .i64 (x1 : Nat)) := hc1
      have hc2 : wr.cell? ⟨b, off + k * 2 + 1, none⟩ = some (.int .i64 (x2 : Nat)) := hc2
      have HC : Hid (Calls Try.prog 47 #[.agg #[.int .i64 (x1 : Nat), .int .i64 (x2 : Nat)], .pointer (some ⟨pv, 0, none⟩), .pointer (some ⟨q, 0, none⟩)] wr fun e w'' => e = .returned (.bool (p (x1, x2))) ∧ Below wr.heap.size wr w'') := HC
      cases hpx : p (x1, x2)
      · rw [hpx] at HC
        have HPX := Lib.hid hpx; clear hpx
        go_wp2_with (first | (go_at_call 47; refine HC.out.mono ?_; rintro e w2 ⟨rfl, hb2⟩))
        go_roundw
        case rel => exact ⟨k + 1, by omega, by go_num, HN.out.next (d := (0, 0)) hlt (by rw [HX.out]; exact HPX.out), HB.out.trans (hb2.mono HB.out.size)⟩
        case measure => simp [intOf]; omega
      · rw [hpx] at HC
        have HPX := Lib.hid hpx; clear hpx
        go_wp2_with (first | (go_at_call 47; refine HC.out.mono ?_; rintro e w2 ⟨rfl, hb2⟩))
        go_ret
        exact ⟨k, rfl, by rw [any_here (d := (0, 0)) hlt (by rw [HX.out]; exact HPX.out)]; simp, HB.out.trans (hb2.mono HB.out.size)⟩
    · obtain rfl : k = xs.length := by omega
      go_wp2_with fail
      go_ret
      exact ⟨-1, rfl, by rw [hny.fin]; rfl, hb⟩
theorem con_hit (S : NSet) (v pv q : Nat) (xs : Pairs) (a : Option Addr) (cap : Nat) (w : World) (hin : PairsIn w a xs) (hl : xs.length ≤ 1000)
    (h10 : ∀ e ∈ xs, e.1 < 10) (hv : w.cell? ⟨pv, 0, none⟩ = some (.int .i64 v)) (hT : Ten w q S) :
    Calls Try.prog 46 #[.slice a xs.length cap, .func (.func 47) #[] #[.pointer (some ⟨pv, 0, none⟩), .pointer (some ⟨q, 0, none⟩)]] w fun e w' => e = .returned (.bool (xs.any (hitB S v))) ∧ Below w.heap.size w w' := by
  have HC := Lib.hid (idx_hit S v pv q xs a cap w hin hl h10 hv hT)
  clear hin hv hT h10
  go_enter Try.func46, Try.ntmps46
  go_wp2_with (first | (go_at_call 73; refine HC.out.mono ?_; rintro e w2 ⟨r, rfl, hr, hb2⟩))
  go_wp2_with fail
  go_ret
  exact ⟨rfl, hb2⟩
end Go.Proofs.Ytmljmmnofhhheaa
