/- The walks of slices.IndexFunc and ContainsFunc over instructions at whatever closure. -/
import Derived.Test.YtjfpaelmcepidaaKV
namespace Go.Proofs.Ytjfpaelmcepidaa.PK
open Go.RowKit

/-- The first instruction at which p holds, or -1. -/
def IdxC (l : List Cd) (p : Cd → Bool) (r : Int) : Prop := (r = -1 ∧ ∀ j, j < l.length → p (atC l j) = false) ∨ (∃ k : Nat, k < l.length ∧ r = (k : Int) ∧ p (atC l k) = true ∧ ∀ j, j < k → p (atC l j) = false)
theorem anyC_true {l : List Cd} {p : Cd → Bool} : l.any p = true ↔ ∃ k, k < l.length ∧ p (atC l k) = true := by
  rw [List.any_eq_true]
  constructor
  · rintro ⟨x, hx, h⟩
    obtain ⟨k, hk, rfl⟩ := mem_atC hx
    exact ⟨k, hk, h⟩
  · rintro ⟨k, hk, h⟩; exact ⟨_, atC_mem hk, h⟩
theorem anyC_false {l : List Cd} {p : Cd → Bool} : l.any p = false ↔ ∀ k, k < l.length → p (atC l k) = false := by
  constructor
  · intro h k hk
    cases hp : p (atC l k)
    · rfl
    · rw [anyC_true.2 ⟨k, hk, hp⟩] at h; cases h
  · intro h
    cases ha : l.any p
    · rfl
    · obtain ⟨k, hk, e⟩ := anyC_true.1 ha
      rw [h k hk] at e; cases e
theorem IdxC.any {l : List Cd} {p : Cd → Bool} {r : Int} (h : IdxC l p r) : decide (0 ≤ r) = l.any p := by
  rcases h with ⟨rfl, h⟩ | ⟨k, hk, rfl, h, _⟩
  · rw [anyC_false.2 h]; rfl
  · rw [anyC_true.2 ⟨k, hk, h⟩]; simp
def IdxCPost (l : List Cd) (p : Cd → Bool) (w : World) (e : Ending) (w' : World) : Prop := ∃ r : Int, e = .returned (.int .i64 r) ∧ IdxC l p r ∧ Below w.heap.size w w'
set_option maxHeartbeats 1000000 in
theorem idxC_any (g : Nat) (lb : Array Value) (eg : ∀ args w, (callFunc g args).run Try.prog w = .ok (.enter g args) w) (p : Cd → Bool) (l : List Cd) (a : Option Addr) (cap : Nat) (w : World) (hin : CdsIn w a l) (hl : (l.length : Int) ≤ 9223372036854775807)
    (hp : ∀ k W, k < l.length → Below w.heap.size w W → Calls Try.prog g (#[(.agg #[.int .i64 (atC l k).op, .int .i64 (atC l k).d, .int .i64 (atC l k).a, .int .i64 (atC l k).b, .int .u32 (atC l k).im, .int .i64 (atC l k).to])] ++ lb) W fun e W' => e = .returned (.bool (p (atC l k))) ∧ Below W.heap.size W W') :
    Calls Try.prog 85 #[.slice a l.length cap, .func (.func g) #[] lb] w (IdxCPost l p w) := by
  have HI := Lib.hid hin; have HP := Lib.hid hp
  clear hin hp
  go_enter Try.func85, Try.ntmps85
  go_wp2_with fail
  go_loopw [8] (fun i wr => ∃ k : Nat, k ≤ l.length ∧ i = .int .i64 k ∧ (∀ j, j < k → p (atC l j) = false) ∧ Below w.heap.size w wr) (fun i _ => l.length - (intOf i).toNat)
  case atStart => exact ⟨0, Nat.zero_le _, rfl, fun j hj => absurd hj (Nat.not_lt_zero _), Below.refl _ _⟩
  case round =>
    obtain ⟨k, hk, rfl, hny, hb⟩ := hrel
    have HB := Lib.hid hb; have HN := Lib.hid hny; clear hny
    by_cases hlt : k < l.length
    · obtain ⟨b, off, rfl, hc⟩ := HI.out.below hb k hlt
      have HC := Lib.hid (HP.out k wr hlt hb)
      clear hb
      generalize hx : atC l k = x at *
      have HX := Lib.hid hx; clear hx
      obtain ⟨x0, x1, x2, x3, x4, x5⟩ := x
      obtain ⟨c0, c1, c2, c3, c4, c5⟩ := hc
      simp only at c0 c1 c2 c3 c4 c5
      have HC : Hid (Calls Try.prog g (#[.agg #[.int .i64 x0, .int .i64 x1, .int .i64 x2, .int .i64 x3, .int .u32 x4, .int .i64 x5]] ++ lb) wr fun e W' => e = .returned (.bool (p ⟨x0, x1, x2, x3, x4, x5⟩)) ∧ Below wr.heap.size wr W') := HC
      cases hpx : p ⟨x0, x1, x2, x3, x4, x5⟩
      · rw [hpx] at HC
        have HPX := Lib.hid hpx; clear hpx
        go_wp2_with (first | (go_at_fn g; refine HC.out.mono ?_; rintro e w2 ⟨rfl, hb2⟩))
        go_roundw
        case rel => exact ⟨k + 1, by omega, by go_num, fun j hj => by
          by_cases e : j = k
          · rw [e, HX.out]; exact HPX.out
          · exact HN.out j (by omega), HB.out.trans (hb2.mono HB.out.size)⟩
        case measure => simp [intOf]; omega
      · rw [hpx] at HC
        have HPX := Lib.hid hpx; clear hpx
        go_wp2_with (first | (go_at_fn g; refine HC.out.mono ?_; rintro e w2 ⟨rfl, hb2⟩))
        go_ret
        exact ⟨k, rfl, .inr ⟨k, hlt, rfl, by rw [HX.out]; exact HPX.out, HN.out⟩, HB.out.trans (hb2.mono HB.out.size)⟩
    · clear hb
      go_wp2_with fail
      go_ret
      exact ⟨-1, rfl, .inl ⟨rfl, fun j hj => HN.out j (by omega)⟩, HB.out⟩
theorem conC_any (g : Nat) (lb : Array Value) (eg : ∀ args w, (callFunc g args).run Try.prog w = .ok (.enter g args) w) (p : Cd → Bool) (l : List Cd) (a : Option Addr) (cap : Nat) (w : World) (hin : CdsIn w a l) (hl : (l.length : Int) ≤ 9223372036854775807)
    (hp : ∀ k W, k < l.length → Below w.heap.size w W → Calls Try.prog g (#[(.agg #[.int .i64 (atC l k).op, .int .i64 (atC l k).d, .int .i64 (atC l k).a, .int .i64 (atC l k).b, .int .u32 (atC l k).im, .int .i64 (atC l k).to])] ++ lb) W fun e W' => e = .returned (.bool (p (atC l k))) ∧ Below W.heap.size W W') :
    Calls Try.prog 46 #[.slice a l.length cap, .func (.func g) #[] lb] w fun e w' => e = .returned (.bool (l.any p)) ∧ Below w.heap.size w w' := by
  have HC := Lib.hid (idxC_any g lb eg p l a cap w hin hl hp)
  clear hin hp eg
  go_enter Try.func46, Try.ntmps46
  go_wp2_with (first | (go_at_call 85; refine HC.out.mono ?_; rintro e w2 ⟨r, rfl, hr, hb2⟩; have HR := Lib.hid hr.any; clear hr))
  go_ret
  exact ⟨ret_bool HR.out, hb2⟩
end Go.Proofs.Ytjfpaelmcepidaa.PK
