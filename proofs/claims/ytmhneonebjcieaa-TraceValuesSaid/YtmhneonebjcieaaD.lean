/- How places lie in memory; the walk of slices.IndexFunc and slices.ContainsFunc over them at whatever closure. -/
import Derived.Test.YtmhneonebjcieaaP2
import Derived.Test.YtmhneonebjcieaaProg
import Derived.WalkKit
import Derived.WalkSpells
import Derived.WalkLawsBesides
import Derived.BigQuiet
import Derived.Deep.QuietTactic
import Derived.Lib.Hide
import Derived.Lib.SliceRun
import Derived.Laws.EntriesVeiled
import Derived.Laws.Rows
import Derived.OneCell
import Derived.Shelf.Abstract
namespace Go.Proofs.Ytmhneonebjcieaa
open Go.RowKit

theorem ret_bool {a b : Bool} (h : a = b) : Ending.returned (.bool a) = .returned (.bool b) := by rw [h]
theorem ret_int {k : IntKind} {a b : Int} (h : a = b) : Ending.returned (.int k a) = .returned (.int k b) := by rw [h]
theorem keep {w w' : World} {b off : Nat} {v : Value} (h : w.cell? ⟨b, off, none⟩ = some v) (hb : Below w.heap.size w w') : w'.cell? ⟨b, off, none⟩ = some v := by
  rw [hb.cell (p := ⟨b, off, none⟩) (block_lt_of_cell h)]; exact h
theorem below_drewN {B : Nat} {w w' : World} (h : Below B w w') (n : Nat) : Below B w (w'.drewN n) := ⟨h.os, h.tape, h.output, h.size, h.block⟩
theorem heap_at (w : World) (o : Obj) (n : Nat) (h : n = w.heap.size) : (w.alloc o).heap[n]? = some o := by subst h; exact heap_alloc_new w o

theorem Try.infoInt : (Try.prog.info? 3).map (fun i => (i.zero, i.size, i.bytes)) = some (some (.int .i64 0), 1, 8) := by kernel_rfl
/-- The five cells of a place. -/
structure PlAt (w : World) (b off : Nat) (p : Pl) : Prop where
  c0 : w.cell? ⟨b, off, none⟩ = some (.int .i64 p.fr)
  c1 : w.cell? ⟨b, off + 1, none⟩ = some (.int .i64 p.to)
  c2 : w.cell? ⟨b, off + 2, none⟩ = some (.int .i64 p.va)
  c3 : w.cell? ⟨b, off + 3, none⟩ = some (.int .i64 p.ki)
  c4 : w.cell? ⟨b, off + 4, none⟩ = some (.int .i64 p.nn)
theorem PlAt.keep {w w' : World} {b off : Nat} {p : Pl} (h : PlAt w b off p) (hb : Below w.heap.size w w') : PlAt w' b off p :=
  ⟨Ytmhneonebjcieaa.keep h.c0 hb, Ytmhneonebjcieaa.keep h.c1 hb, Ytmhneonebjcieaa.keep h.c2 hb, Ytmhneonebjcieaa.keep h.c3 hb, Ytmhneonebjcieaa.keep h.c4 hb⟩
/-- The cells of a slice are these places. -/
def PlsIn (w : World) (a : Option Addr) (l : List Pl) : Prop :=
  ∀ k, k < l.length → ∃ b off, a = some ⟨b, off, none⟩ ∧ PlAt w b (off + k * 5) (at' l k)
theorem PlsIn.below {w w' : World} {a : Option Addr} {l : List Pl} (h : PlsIn w a l) (hb : Below w.heap.size w w') : PlsIn w' a l := fun k hk => by
  obtain ⟨b, off, rfl, hc⟩ := h k hk
  exact ⟨b, off, rfl, hc.keep hb⟩
theorem PlsIn.take {w : World} {a : Option Addr} {l : List Pl} (h : PlsIn w a l) (n : Nat) : PlsIn w a (l.take n) := fun k hk => by
  rw [List.length_take] at hk
  obtain ⟨b, off, rfl, hc⟩ := h k (by omega)
  exact ⟨b, off, rfl, by rw [at_take (by omega)]; exact hc⟩
theorem PlsIn.nil (w : World) (a : Option Addr) : PlsIn w a [] := fun _ hk => absurd hk (Nat.not_lt_zero _)
/-- A slice of these numbers. -/
def IntsIn (w : World) (a : Option Addr) (xs : List Int) : Prop :=
  ∀ k, k < xs.length → ∃ b off, a = some ⟨b, off, none⟩ ∧ w.cell? ⟨b, off + k, none⟩ = some (.int .i64 (xs.getD k 0))
theorem IntsIn.below {w w' : World} {a : Option Addr} {xs : List Int} (h : IntsIn w a xs) (hb : Below w.heap.size w w') : IntsIn w' a xs := fun k hk => by
  obtain ⟨b, off, rfl, hc⟩ := h k hk
  exact ⟨b, off, rfl, keep hc hb⟩

/-- The first place at which p holds, or -1. -/
def IdxP (l : List Pl) (p : Pl → Bool) (r : Int) : Prop := (r = -1 ∧ ∀ j, j < l.length → p (at' l j) = false) ∨ (∃ k : Nat, k < l.length ∧ r = (k : Int) ∧ p (at' l k) = true ∧ ∀ j, j < k → p (at' l j) = false)
theorem IdxP.any {l : List Pl} {p : Pl → Bool} {r : Int} (h : IdxP l p r) : decide (0 ≤ r) = l.any p := by
  rw [any_at]
  rcases h with ⟨rfl, h⟩ | ⟨k, hk, rfl, h, _⟩
  · rw [anyTo_false.2 h]; rfl
  · rw [anyTo_true.2 ⟨k, hk, h⟩]; simp
def IdxPost (l : List Pl) (p : Pl → Bool) (w : World) (e : Ending) (w' : World) : Prop := ∃ r : Int, e = .returned (.int .i64 r) ∧ IdxP l p r ∧ Below w.heap.size w w'
set_option maxHeartbeats 1000000 in
theorem idx_any (g : Nat) (lb : Array Value) (eg : ∀ args w, (callFunc g args).run Try.prog w = .ok (.enter g args) w) (p : Pl → Bool) (l : List Pl) (a : Option Addr) (cap : Nat) (w : World) (hin : PlsIn w a l) (hl : l.length ≤ 1000)
    (hp : ∀ k W, k < l.length → Below w.heap.size w W → Calls Try.prog g (#[(.agg #[.int .i64 (at' l k).fr, .int .i64 (at' l k).to, .int .i64 (at' l k).va, .int .i64 (at' l k).ki, .int .i64 (at' l k).nn])] ++ lb) W fun e W' => e = .returned (.bool (p (at' l k))) ∧ Below W.heap.size W W') :
    Calls Try.prog 59 #[.slice a l.length cap, .func (.func g) #[] lb] w (IdxPost l p w) := by
  have HI := Lib.hid hin; have HP := Lib.hid hp
  clear hin hp
  go_enter Try.func59, Try.ntmps59
  go_wp2_with fail
  go_loopw [8] (fun i wr => ∃ k : Nat, k ≤ l.length ∧ i = .int .i64 k ∧ (∀ j, j < k → p (at' l j) = false) ∧ Below w.heap.size w wr) (fun i _ => l.length - (intOf i).toNat)
  case atStart => exact ⟨0, Nat.zero_le _, rfl, fun j hj => absurd hj (Nat.not_lt_zero _), Below.refl _ _⟩
  case round =>
    obtain ⟨k, hk, rfl, hny, hb⟩ := hrel
    have HB := Lib.hid hb; have HN := Lib.hid hny; clear hny
    by_cases hlt : k < l.length
    · obtain ⟨b, off, rfl, hc⟩ := HI.out.below hb k hlt
      have HC := Lib.hid (HP.out k wr hlt hb)
      clear hb
      generalize hx : at' l k = x at *
      have HX := Lib.hid hx; clear hx
      obtain ⟨x0, x1, x2, x3, x4⟩ := x
      obtain ⟨c0, c1, c2, c3, c4⟩ := hc
      simp only at c0 c1 c2 c3 c4
      have HC : Hid (Calls Try.prog g (#[.agg #[.int .i64 x0, .int .i64 x1, .int .i64 x2, .int .i64 x3, .int .i64 x4]] ++ lb) wr fun e W' => e = .returned (.bool (p ⟨x0, x1, x2, x3, x4⟩)) ∧ Below wr.heap.size wr W') := HC
      cases hpx : p ⟨x0, x1, x2, x3, x4⟩
      · rw [hpx] at HC
        have HPX := Lib.hid hpx; clear hpx
        go_wp2_with (first | (go_at_fn g; refine HC.out.mono ?_; rintro e w2 ⟨rfl, hb2⟩))
        go_roundw
        case rel => exact ⟨k + 1, by omega, by go_num, fun j hj => by
          by_cases e : j = k
          · rw [e, HX.out]; exact HPX.out
          · exact HN.out j (by omega), HB.out.trans (hb2.mono HB.out.size)⟩
        case measure => simp [intOf]; omega
      · rw [hpx] at HC
        have HPX := Lib.hid hpx; clear hpx
        go_wp2_with (first | (go_at_fn g; refine HC.out.mono ?_; rintro e w2 ⟨rfl, hb2⟩))
        go_ret
        exact ⟨k, rfl, .inr ⟨k, hlt, rfl, by rw [HX.out]; exact HPX.out, HN.out⟩, HB.out.trans (hb2.mono HB.out.size)⟩
    · clear hb
      go_wp2_with fail
      go_ret
      exact ⟨-1, rfl, .inl ⟨rfl, fun j hj => HN.out j (by omega)⟩, HB.out⟩
theorem con_any (g : Nat) (lb : Array Value) (eg : ∀ args w, (callFunc g args).run Try.prog w = .ok (.enter g args) w) (p : Pl → Bool) (l : List Pl) (a : Option Addr) (cap : Nat) (w : World) (hin : PlsIn w a l) (hl : l.length ≤ 1000)
    (hp : ∀ k W, k < l.length → Below w.heap.size w W → Calls Try.prog g (#[(.agg #[.int .i64 (at' l k).fr, .int .i64 (at' l k).to, .int .i64 (at' l k).va, .int .i64 (at' l k).ki, .int .i64 (at' l k).nn])] ++ lb) W fun e W' => e = .returned (.bool (p (at' l k))) ∧ Below W.heap.size W W') :
    Calls Try.prog 51 #[.slice a l.length cap, .func (.func g) #[] lb] w fun e w' => e = .returned (.bool (l.any p)) ∧ Below w.heap.size w w' := by
  have HC := Lib.hid (idx_any g lb eg p l a cap w hin hl hp)
  clear hin hp eg
  go_enter Try.func51, Try.ntmps51
  go_wp2_with (first | (go_at_call 59; refine HC.out.mono ?_; rintro e w2 ⟨r, rfl, hr, hb2⟩; have HR := Lib.hid hr.any; clear hr))
  go_ret
  exact ⟨ret_bool HR.out, hb2⟩
end Go.Proofs.Ytmhneonebjcieaa
