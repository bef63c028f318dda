/- The walks of slices.IndexFunc and ContainsFunc over numbers at whatever closure. -/
import Derived.Test.YtahaoddilejpnaaHB
namespace Go.Proofs.Ytahaoddilejpnaa
open Go.RowKit

/-- The first number at which p holds, or -1. -/
def IdxI (l : List Int) (p : Int → Bool) (r : Int) : Prop := (r = -1 ∧ ∀ j, j < l.length → p (l.getD j 0) = false) ∨ (∃ k : Nat, k < l.length ∧ r = (k : Int) ∧ p (l.getD k 0) = true)
theorem IdxI.any {l : List Int} {p : Int → Bool} {r : Int} (h : IdxI l p r) : decide (0 ≤ r) = l.any p := by
  rcases h with ⟨rfl, h⟩ | ⟨k, hk, rfl, h⟩
  · have : l.any p = false := by
      rw [List.any_eq_false]
      intro x hx
      obtain ⟨j, hj, rfl⟩ := List.mem_iff_getElem.1 hx
      have := h j hj
      rw [List.getD_eq_getElem?_getD, List.getElem?_eq_getElem hj] at this
      rw [Bool.not_eq_true]; exact this
    rw [this]; rfl
  · have : l.any p = true := by
      rw [List.any_eq_true]
      refine ⟨l.getD k 0, ?_, h⟩
      rw [List.getD_eq_getElem?_getD, List.getElem?_eq_getElem hk]
      exact List.getElem_mem hk
    rw [this]; simp
def IdxIPost (l : List Int) (p : Int → Bool) (w : World) (e : Ending) (w' : World) : Prop := ∃ r : Int, e = .returned (.int .i64 r) ∧ IdxI l p r ∧ Below w.heap.size w w'
set_option maxHeartbeats 1000000 in
theorem idxI_any (g : Nat) (lb : Array Value) (eg : ∀ args w, (callFunc g args).run Try.prog w = .ok (.enter g args) w) (p : Int → Bool) (l : List Int) (a : Option Addr) (cap : Nat) (w : World) (hin : IntsIn w a l) (hl : (l.length : Int) ≤ 1099511627776)
    (hp : ∀ k W, k < l.length → Below w.heap.size w W → Calls Try.prog g (#[.int .i64 (l.getD k 0)] ++ lb) W fun e W' => e = .returned (.bool (p (l.getD k 0))) ∧ Below W.heap.size W W') :
    Calls Try.prog 72 #[.slice a l.length cap, .func (.func g) #[] lb] w (IdxIPost l p w) := by
  have HI := Lib.hid hin; have HP := Lib.hid hp
  clear hin hp
  go_enter Try.func72, Try.ntmps72
  go_wp2_with fail
  go_loopw [8] (fun i wr => ∃ k : Nat, k ≤ l.length ∧ i = .int .i64 k ∧ (∀ j, j < k → p (l.getD j 0) = false) ∧ Below w.heap.size w wr) (fun i _ => l.length - (intOf i).toNat)
  case atStart => exact ⟨0, Nat.zero_le _, rfl, fun j hj => absurd hj (Nat.not_lt_zero _), Below.refl _ _⟩
  case round =>
    obtain ⟨k, hk, rfl, hny, hb⟩ := hrel
    have HB := Lib.hid hb; have HN := Lib.hid hny; clear hny
    by_cases hlt : k < l.length
    · obtain ⟨b, off, rfl, hc⟩ := HI.out.below hb k hlt
      have HC := Lib.hid (HP.out k wr hlt hb)
      clear hb
      generalize hx : l.getD k 0 = x at *
      have HX := Lib.hid hx; clear hx
      cases hpx : p x
      · rw [hpx] at HC
        have HPX := Lib.hid hpx; clear hpx
        go_wp2_with (first | (go_at_fn g; refine HC.out.mono ?_; rintro e w2 ⟨rfl, hb2⟩))
        go_roundw
        case rel => exact ⟨k + 1, by omega, by go_num, fun j hj => by
          by_cases e : j = k
          · rw [e, HX.out]; exact HPX.out
          · exact HN.out j (by omega), HB.out.trans (hb2.mono HB.out.size)⟩
        case measure => simp [intOf]; omega
      · rw [hpx] at HC
        have HPX := Lib.hid hpx; clear hpx
        go_wp2_with (first | (go_at_fn g; refine HC.out.mono ?_; rintro e w2 ⟨rfl, hb2⟩))
        go_ret
        exact ⟨k, rfl, .inr ⟨k, hlt, rfl, by rw [HX.out]; exact HPX.out⟩, HB.out.trans (hb2.mono HB.out.size)⟩
    · clear hb
      go_wp2_with fail
      go_ret
      exact ⟨-1, rfl, .inl ⟨rfl, fun j hj => HN.out j (by omega)⟩, HB.out⟩
theorem conI_any (g : Nat) (lb : Array Value) (eg : ∀ args w, (callFunc g args).run Try.prog w = .ok (.enter g args) w) (p : Int → Bool) (l : List Int) (a : Option Addr) (cap : Nat) (w : World) (hin : IntsIn w a l) (hl : (l.length : Int) ≤ 1099511627776)
    (hp : ∀ k W, k < l.length → Below w.heap.size w W → Calls Try.prog g (#[.int .i64 (l.getD k 0)] ++ lb) W fun e W' => e = .returned (.bool (p (l.getD k 0))) ∧ Below W.heap.size W W') :
    Calls Try.prog 40 #[.slice a l.length cap, .func (.func g) #[] lb] w fun e w' => e = .returned (.bool (l.any p)) ∧ Below w.heap.size w w' := by
  have HC := Lib.hid (idxI_any g lb eg p l a cap w hin hl hp)
  clear hin hp eg
  go_enter Try.func40, Try.ntmps40
  go_wp2_with (first | (go_at_call 72; refine HC.out.mono ?_; rintro e w2 ⟨r, rfl, hr, hb2⟩; have HR := Lib.hid hr.any; clear hr))
  go_ret
  exact ⟨ret_bool HR.out, hb2⟩
end Go.Proofs.Ytahaoddilejpnaa
