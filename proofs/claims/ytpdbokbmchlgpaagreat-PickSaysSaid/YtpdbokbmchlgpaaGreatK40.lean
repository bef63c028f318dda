/- Packed of several texts. -/
import Derived.Test.YtpdbokbmchlgpaaGreatK39
import Derived.Deep.RegionHeld3
import Derived.Deep.CutRange
import Derived.StillTailTactics
import Derived.Test.YtpdbokbmchlgpaaGreatK31
namespace Go.Proofs.YtpdbokbmchlgpaaGreat.PK
open Go.RowKit

theorem qS {f : FuncId} {args : Array Value} {w : World} {n : Nat} {v : Value} (h : Calls Tryz.prog f args (w.drewN n) fun e w' => e = .returned v ∧ w.drewN n = w') : Calls Tryz.prog f args (w.drewN n) fun e w'' => e = .returned v ∧ ∃ m, w'' = w.drewN m :=
  Calls.quiet_of_same (h.mono fun _ _ k => ⟨k.1, k.2.symm⟩)
theorem qSn {f : FuncId} {args : Array Value} {w : World} {k n : Nat} {v : Value} (h : Calls Tryz.prog f args (w.drewN (k + n)) fun e w' => e = .returned v ∧ w.drewN (k + n) = w') : Calls Tryz.prog f args (w.drewN (k + n)) fun e w'' => e = .returned v ∧ ∃ m, w'' = w.drewN (k + m) :=
  h.mono fun _ _ h => ⟨h.1, n, h.2.symm⟩
theorem sign_same (a : Int) (w : World) : Calls Tryz.prog 138 #[.int .i64 a, .int .i64 a] w fun e w' => e = .returned (.int .i64 0) ∧ w = w' := by
  go_enter Tryz.func138, Tryz.ntmps138
  go_wp2_with fail
  go_ret
  exact ⟨rfl, rfl⟩
theorem bit_no (w : World) : Calls Tryz.prog 137 #[.bool false] w fun e w' => e = .returned (.int .i64 0) ∧ w = w' := by
  go_enter Tryz.func137, Tryz.ntmps137
  go_wp2_with fail
  go_ret
  exact ⟨rfl, rfl⟩
set_option maxHeartbeats 1000000 in
theorem ints_same (xs : List Int) (a b : Option Addr) (ca cb : Nat) (w : World) (ha : IntsIn w a xs) (hb : IntsIn w b xs) (hl : xs.length ≤ 1000000) :
    Calls Tryz.prog 136 #[.slice a xs.length ca, .slice b xs.length cb] w fun e w' => e = .returned (.int .i64 0) ∧ Below w.heap.size w w' ∧ w'.heap = w.heap := by
  have HA := Lib.hid ha; have HB := Lib.hid hb
  have HSg := Lib.hid sign_same
  clear ha hb
  go_enter Tryz.func136, Tryz.ntmps136
  go_wp2_with fail
  go_loopw [5] (fun i wr => ∃ k : Nat, k ≤ xs.length ∧ i = .int .i64 k ∧ Below w.heap.size w wr ∧ wr.heap = w.heap) (fun i _ => xs.length - (intOf i).toNat)
  case atStart => exact ⟨0, Nat.zero_le _, rfl, Below.refl _ _, rfl⟩
  case round =>
    obtain ⟨k, hk, rfl, hbl, hhp⟩ := hrel
    have HHp := Lib.hid hhp; clear hhp
    by_cases hlt : k < xs.length
    · obtain ⟨b1, o1, rfl, h1⟩ := HA.out.below hbl k hlt
      obtain ⟨b2, o2, rfl, h2⟩ := HB.out.below hbl k hlt
      have HBl := Lib.hid hbl
      have hki : (k : Int) < (xs.length : Int) := by omega
      clear hbl
      generalize xs.getD k 0 = x at *
      have hb : ((0 : Int) != 0) = false := rfl
      go_wp2_with fail
      go_quiet ((go_at_call 138; first | exact qS (HSg.out _ _) | exact qSn (HSg.out _ _)))
      go_wp2_with fail
      go_roundw
      case rel => exact ⟨k + 1, by omega, by go_num, below_drewN HBl.out _, HHp.out⟩
      case measure => simp [intOf]; omega
    · have HBl := Lib.hid hbl
      clear hbl
      go_wp2_with fail
      refine (HSg.out _ _).mono ?_; rintro e w5 ⟨rfl, rfl⟩
      go_wp2_with fail
      go_ret
      exact ⟨rfl, HBl.out, HHp.out⟩
end Go.Proofs.YtpdbokbmchlgpaaGreat.PK
namespace Go.Proofs.YtpdbokbmchlgpaaGreat.PK
open Go.RowKit

/-- Every block from q on is the row 0, 0, 0, n. -/
def Rows4 (w : World) (q : Nat) (n : Int) : Prop := ∀ b, q ≤ b → b < w.heap.size → w.heap[b]? = some (.cells #[.int .i64 0, .int .i64 0, .int .i64 0, .int .i64 n] 3 (0, 0))
theorem Rows4.drew {w : World} {q : Nat} {n : Int} (h : Rows4 w q n) : Rows4 w.drew q n := h
theorem Rows4.alloc {w : World} {q : Nat} {n : Int} (h : Rows4 w q n) : Rows4 (w.alloc (.cells #[.int .i64 0, .int .i64 0, .int .i64 0, .int .i64 n] 3)) q n := fun b h1 h2 => by
  by_cases e : b < w.heap.size
  · rw [heap_past _ _ _ e]; exact h b h1 e
  · obtain rfl : b = w.heap.size := by simp at h2; omega
    exact heap_alloc_new _ _
theorem Rows4.ints {w : World} {q : Nat} {n : Int} (h : Rows4 w q n) {b : Nat} (h1 : q ≤ b) (h2 : b < w.heap.size) : IntsIn w (some ⟨b, 0, none⟩) [0, 0, 0, n] := fun k hk => by
  refine ⟨b, 0, rfl, ?_⟩
  rw [Nat.zero_add, cell_of_row _ _ k _ _ _ (h b h1 h2)]
  match k, hk with
  | 0, _ => rfl
  | 1, _ => rfl
  | 2, _ => rfl
  | 3, _ => rfl
/-- What the region of the heads keeps. -/
def Hd (w1 : World) (n : Int) (w' : World) : Prop := Below w1.heap.size w1 w' ∧ Rows4 w' w1.heap.size n
theorem Hd.drew {w1 w' : World} {n : Int} (h : Hd w1 n w') : Hd w1 n w'.drew := ⟨below_drew1 h.1, h.2⟩
theorem Hd.alloc {w1 w' : World} {n : Int} (h : Hd w1 n w') : Hd w1 n (w'.alloc (.cells #[.int .i64 0, .int .i64 0, .int .i64 0, .int .i64 n] 3)) := ⟨h.1.alloc h.1.size _, h.2.alloc⟩
theorem Hd.sz {w1 w' : World} {n : Int} (h : Hd w1 n w') : w1.heap.size ≤ w'.heap.size := h.1.size

theorem held_8 {w1 w' w2 : World} {n m : Int} {q : Nat} (h : Hd w1 n w' ∧ w'.cell? ⟨q, 0, none⟩ = some (.int .i64 0) ∧ w'.cell? ⟨q, 1, none⟩ = some (.bool false) ∧ w'.cell? ⟨q, 2, none⟩ = some (.int .i64 0) ∧ w'.cell? ⟨q, 3, none⟩ = some (.int .u32 m) ∧ w'.cell? ⟨q + 1, 0, none⟩ = some (.int .i64 0) ∧ w'.cell? ⟨q + 1, 1, none⟩ = some (.bool false) ∧ w'.cell? ⟨q + 1, 2, none⟩ = some (.int .i64 0) ∧ w'.cell? ⟨q + 1, 3, none⟩ = some (.int .u32 m)) (hb : Below w'.heap.size w' w2) (hd : Hd w1 n w2) : Hd w1 n w2 ∧ w2.cell? ⟨q, 0, none⟩ = some (.int .i64 0) ∧ w2.cell? ⟨q, 1, none⟩ = some (.bool false) ∧ w2.cell? ⟨q, 2, none⟩ = some (.int .i64 0) ∧ w2.cell? ⟨q, 3, none⟩ = some (.int .u32 m) ∧ w2.cell? ⟨q + 1, 0, none⟩ = some (.int .i64 0) ∧ w2.cell? ⟨q + 1, 1, none⟩ = some (.bool false) ∧ w2.cell? ⟨q + 1, 2, none⟩ = some (.int .i64 0) ∧ w2.cell? ⟨q + 1, 3, none⟩ = some (.int .u32 m) := by
  obtain ⟨_, h1, h2, h3, h4, h5, h6, h7, h8⟩ := h
  exact ⟨hd, keep h1 hb, keep h2 hb, keep h3 hb, keep h4 hb, keep h5 hb, keep h6 hb, keep h7 hb, keep h8 hb⟩
theorem held_8d {w1 w' : World} {n m : Int} {q : Nat} (h : Hd w1 n w' ∧ w'.cell? ⟨q, 0, none⟩ = some (.int .i64 0) ∧ w'.cell? ⟨q, 1, none⟩ = some (.bool false) ∧ w'.cell? ⟨q, 2, none⟩ = some (.int .i64 0) ∧ w'.cell? ⟨q, 3, none⟩ = some (.int .u32 m) ∧ w'.cell? ⟨q + 1, 0, none⟩ = some (.int .i64 0) ∧ w'.cell? ⟨q + 1, 1, none⟩ = some (.bool false) ∧ w'.cell? ⟨q + 1, 2, none⟩ = some (.int .i64 0) ∧ w'.cell? ⟨q + 1, 3, none⟩ = some (.int .u32 m)) : Hd w1 n w'.drew ∧ w'.drew.cell? ⟨q, 0, none⟩ = some (.int .i64 0) ∧ w'.drew.cell? ⟨q, 1, none⟩ = some (.bool false) ∧ w'.drew.cell? ⟨q, 2, none⟩ = some (.int .i64 0) ∧ w'.drew.cell? ⟨q, 3, none⟩ = some (.int .u32 m) ∧ w'.drew.cell? ⟨q + 1, 0, none⟩ = some (.int .i64 0) ∧ w'.drew.cell? ⟨q + 1, 1, none⟩ = some (.bool false) ∧ w'.drew.cell? ⟨q + 1, 2, none⟩ = some (.int .i64 0) ∧ w'.drew.cell? ⟨q + 1, 3, none⟩ = some (.int .u32 m) := held_8 h (below_drew1 (Below.refl _ _)) h.1.drew
theorem held_8a {w1 w' : World} {n m : Int} {q : Nat} (h : Hd w1 n w' ∧ w'.cell? ⟨q, 0, none⟩ = some (.int .i64 0) ∧ w'.cell? ⟨q, 1, none⟩ = some (.bool false) ∧ w'.cell? ⟨q, 2, none⟩ = some (.int .i64 0) ∧ w'.cell? ⟨q, 3, none⟩ = some (.int .u32 m) ∧ w'.cell? ⟨q + 1, 0, none⟩ = some (.int .i64 0) ∧ w'.cell? ⟨q + 1, 1, none⟩ = some (.bool false) ∧ w'.cell? ⟨q + 1, 2, none⟩ = some (.int .i64 0) ∧ w'.cell? ⟨q + 1, 3, none⟩ = some (.int .u32 m)) : Hd w1 n (w'.alloc (.cells #[.int .i64 0, .int .i64 0, .int .i64 0, .int .i64 n] 3)) ∧ (w'.alloc (.cells #[.int .i64 0, .int .i64 0, .int .i64 0, .int .i64 n] 3)).cell? ⟨q, 0, none⟩ = some (.int .i64 0) ∧ (w'.alloc (.cells #[.int .i64 0, .int .i64 0, .int .i64 0, .int .i64 n] 3)).cell? ⟨q, 1, none⟩ = some (.bool false) ∧ (w'.alloc (.cells #[.int .i64 0, .int .i64 0, .int .i64 0, .int .i64 n] 3)).cell? ⟨q, 2, none⟩ = some (.int .i64 0) ∧ (w'.alloc (.cells #[.int .i64 0, .int .i64 0, .int .i64 0, .int .i64 n] 3)).cell? ⟨q, 3, none⟩ = some (.int .u32 m) ∧ (w'.alloc (.cells #[.int .i64 0, .int .i64 0, .int .i64 0, .int .i64 n] 3)).cell? ⟨q + 1, 0, none⟩ = some (.int .i64 0) ∧ (w'.alloc (.cells #[.int .i64 0, .int .i64 0, .int .i64 0, .int .i64 n] 3)).cell? ⟨q + 1, 1, none⟩ = some (.bool false) ∧ (w'.alloc (.cells #[.int .i64 0, .int .i64 0, .int .i64 0, .int .i64 n] 3)).cell? ⟨q + 1, 2, none⟩ = some (.int .i64 0) ∧ (w'.alloc (.cells #[.int .i64 0, .int .i64 0, .int .i64 0, .int .i64 n] 3)).cell? ⟨q + 1, 3, none⟩ = some (.int .u32 m) := held_8 h ((Below.refl _ _).alloc (Nat.le_refl _) _) h.1.alloc

theorem held_8e {w1 w' w2 : World} {n m : Int} {q : Nat} (h : Hd w1 n w' ∧ w'.cell? ⟨q, 0, none⟩ = some (.int .i64 0) ∧ w'.cell? ⟨q, 1, none⟩ = some (.bool false) ∧ w'.cell? ⟨q, 2, none⟩ = some (.int .i64 0) ∧ w'.cell? ⟨q, 3, none⟩ = some (.int .u32 m) ∧ w'.cell? ⟨q + 1, 0, none⟩ = some (.int .i64 0) ∧ w'.cell? ⟨q + 1, 1, none⟩ = some (.bool false) ∧ w'.cell? ⟨q + 1, 2, none⟩ = some (.int .i64 0) ∧ w'.cell? ⟨q + 1, 3, none⟩ = some (.int .u32 m)) (hb : Below w'.heap.size w' w2) (hh : w2.heap = w'.heap) : Hd w1 n w2 ∧ w2.cell? ⟨q, 0, none⟩ = some (.int .i64 0) ∧ w2.cell? ⟨q, 1, none⟩ = some (.bool false) ∧ w2.cell? ⟨q, 2, none⟩ = some (.int .i64 0) ∧ w2.cell? ⟨q, 3, none⟩ = some (.int .u32 m) ∧ w2.cell? ⟨q + 1, 0, none⟩ = some (.int .i64 0) ∧ w2.cell? ⟨q + 1, 1, none⟩ = some (.bool false) ∧ w2.cell? ⟨q + 1, 2, none⟩ = some (.int .i64 0) ∧ w2.cell? ⟨q + 1, 3, none⟩ = some (.int .u32 m) :=
  held_8 h hb ⟨h.1.1.trans (hb.mono h.1.sz), by unfold Rows4; rw [hh]; exact h.1.2⟩
set_option maxRecDepth 100000 in
set_option maxHeartbeats 4000000 in
theorem compare_same (n : Int) (L : List (List Int)) (a b : Option Addr) (ca cb : Nat) (w : World) (ha : RowsIn w a L) (hb : RowsIn w b L) (hl : L.length ≤ 1000) (hr : ∀ k, k < L.length → (L.getD k []).length ≤ 1000) (hn : isW n) :
    Calls Tryz.prog 64 #[outV n (.slice a L.length ca), outV n (.slice b L.length cb)] w fun e w' => e = .returned (.int .i64 0) ∧ Below w.heap.size w w' := by
  have hal : Below w.heap.size w ((w.alloc (.cells #[.int .i64 0, .bool false, .int .i64 0, .int .u32 n, .slice a L.length ca] 45)).alloc (.cells #[.int .i64 0, .bool false, .int .i64 0, .int .u32 n, .slice b L.length cb] 45)) := ((Below.refl _ _).alloc (Nat.le_refl _) _).alloc (by simp) _
  have hr1 : ((w.alloc (.cells #[.int .i64 0, .bool false, .int .i64 0, .int .u32 n, .slice a L.length ca] 45)).alloc (.cells #[.int .i64 0, .bool false, .int .i64 0, .int .u32 n, .slice b L.length cb] 45)).heap[w.heap.size + 1]? = some ((.cells #[.int .i64 0, .bool false, .int .i64 0, .int .u32 n, .slice b L.length cb] 45) : Obj) := by
    have := heap_alloc_new (w.alloc (.cells #[.int .i64 0, .bool false, .int .i64 0, .int .u32 n, .slice a L.length ca] 45)) (.cells #[.int .i64 0, .bool false, .int .i64 0, .int .u32 n, .slice b L.length cb] 45)
    simpa using this
  have hr0 : ((w.alloc (.cells #[.int .i64 0, .bool false, .int .i64 0, .int .u32 n, .slice a L.length ca] 45)).alloc (.cells #[.int .i64 0, .bool false, .int .i64 0, .int .u32 n, .slice b L.length cb] 45)).heap[w.heap.size]? = some ((.cells #[.int .i64 0, .bool false, .int .i64 0, .int .u32 n, .slice a L.length ca] 45) : Obj) := by
    rw [Below.heap_alloc _ _ _ (by simp)]
    exact heap_alloc_new _ _
  have HA := Lib.hid (ha.below hal); have HB := Lib.hid (hb.below hal)
  have HB0 := Lib.hid hal
  have a0 := cell_of_row _ _ 0 _ _ _ hr0; have a1 := cell_of_row _ _ 1 _ _ _ hr0; have a2 := cell_of_row _ _ 2 _ _ _ hr0; have a3 := cell_of_row _ _ 3 _ _ _ hr0; have a4 := cell_of_row _ _ 4 _ _ _ hr0
  have b0 := cell_of_row _ _ 0 _ _ _ hr1; have b1 := cell_of_row _ _ 1 _ _ _ hr1; have b2 := cell_of_row _ _ 2 _ _ _ hr1; have b3 := cell_of_row _ _ 3 _ _ _ hr1; have b4 := cell_of_row _ _ 4 _ _ _ hr1
  have HA4 := Lib.hid a4; have HB4 := Lib.hid b4
  have HRr := Lib.hid hr
  clear hr
  have HBt := Lib.hid bit_no; have HSg := Lib.hid sign_same; have HIn := Lib.hid ints_same
  obtain ⟨n0, n1⟩ := hn
  clear hal hr0 hr1 ha hb
  have hz1 : w.heap.size + 2 ≤ ((w.alloc (.cells #[.int .i64 0, .bool false, .int .i64 0, .int .u32 n, .slice a L.length ca] 45)).alloc (.cells #[.int .i64 0, .bool false, .int .i64 0, .int .u32 n, .slice b L.length cb] 45)).heap.size := by simp
  unfold outV
  go_enter Tryz.func64, Tryz.ntmps64
  go_upto_region 1 with fail
  generalize hq : w.heap.size = q at *
  have HQ := Lib.hid hq
  generalize ((w.alloc _).alloc _) = w1 at *
  clear hq
  have HIn4 : Hid (∀ u b1 b2, Hd w1 (IntKind.i64.wrap n) u → w1.heap.size ≤ b1 → b1 < u.heap.size → w1.heap.size ≤ b2 → b2 < u.heap.size → Calls Tryz.prog 136 #[.slice (some ⟨b1, 0, none⟩) 4 4, .slice (some ⟨b2, 0, none⟩) 4 4] u fun e w' => e = .returned (.int .i64 0) ∧ Below u.heap.size u w' ∧ w'.heap = u.heap) := Lib.hid fun u b1 b2 hd h1 h2 h3 h4 => HIn.out [0, 0, 0, IntKind.i64.wrap n] _ _ 4 4 u (hd.2.ints h1 h2) (hd.2.ints h3 h4) (by simp)
  have hS : Hd w1 (IntKind.i64.wrap n) w1 ∧ w1.cell? ⟨q, 0, none⟩ = some (.int .i64 0) ∧ w1.cell? ⟨q, 1, none⟩ = some (.bool false) ∧ w1.cell? ⟨q, 2, none⟩ = some (.int .i64 0) ∧ w1.cell? ⟨q, 3, none⟩ = some (.int .u32 n) ∧ w1.cell? ⟨q + 1, 0, none⟩ = some (.int .i64 0) ∧ w1.cell? ⟨q + 1, 1, none⟩ = some (.bool false) ∧ w1.cell? ⟨q + 1, 2, none⟩ = some (.int .i64 0) ∧ w1.cell? ⟨q + 1, 3, none⟩ = some (.int .u32 n) := ⟨⟨Below.refl _ _, fun b h1 h2 => absurd h2 (by omega)⟩, a0, a1, a2, a3, b0, b1, b2, b3⟩
  clear a0 a1 a2 a3 a4 b0 b1 b2 b3 b4
  go_cut [5] from 8 to 36 (fun v wx => v = .int .i64 0 ∧ Below w1.heap.size w1 wx)
  case first =>
    go_region_held3 (fun w' => Hd w1 (IntKind.i64.wrap n) w' ∧ w'.cell? ⟨q, 0, none⟩ = some (.int .i64 0) ∧ w'.cell? ⟨q, 1, none⟩ = some (.bool false) ∧ w'.cell? ⟨q, 2, none⟩ = some (.int .i64 0) ∧ w'.cell? ⟨q, 3, none⟩ = some (.int .u32 n) ∧ w'.cell? ⟨q + 1, 0, none⟩ = some (.int .i64 0) ∧ w'.cell? ⟨q + 1, 1, none⟩ = some (.bool false) ∧ w'.cell? ⟨q + 1, 2, none⟩ = some (.int .i64 0) ∧ w'.cell? ⟨q + 1, 3, none⟩ = some (.int .u32 n))
      (first | exact hS | exact hS4 | exact held_8d hS4 | exact held_8d hS | exact held_8d (by assumption) | exact held_8a (by assumption) | exact held_8d (held_8a hS) | exact held_8d (held_8a (by assumption)))
      (first | (go_at_call 137; refine (HBt.out _).mono ?_; rintro e w4 ⟨rfl, rfl⟩) | (go_at_call 136; refine (HIn4.out _ _ _ (And.left (by assumption)) (by first | (simp; done) | (simp; omega)) (by first | (simp; done) | (simp; omega)) (by first | (simp; done) | (simp; omega)) (by first | (simp; done) | (simp; omega))).mono ?_; rintro e w4 ⟨rfl, hb4, hh4⟩; have hS4 := held_8e (by assumption) hb4 hh4))
    all_goals
      have hb41 := hS4.1.1
      have HB41 := Lib.hid hb41
      clear hS hS4 hb4 hh4 hb41
      go_wp2_with fail
      go_meet
      exact ⟨rfl, HB41.out⟩
  case rest =>
    obtain ⟨rfl, hb41⟩ := hcut
    have c5 := keep HA4.out hb41; have d5 := keep HB4.out hb41
    have HB41 := Lib.hid hb41
    have q0 : ((0 : Int) != 0) = false := rfl
    clear hS hb41
    go_wp2_with fail
    clear c5 d5
    go_loopw [6] (fun i wr => ∃ k : Nat, k ≤ L.length ∧ i = .int .i64 k ∧ Below w1.heap.size w1 wr) (fun i _ => L.length - (intOf i).toNat)
    case atStart => exact ⟨0, Nat.zero_le _, rfl, HB41.out⟩
    case round =>
      obtain ⟨k, hk, rfl, hbl⟩ := hrel
      have c5 := keep HA4.out hbl; have d5 := keep HB4.out hbl
      have HBl := Lib.hid hbl
      by_cases hlt : k < L.length
      · obtain ⟨b1, o1, a1, c1, rfl, h1, hi1⟩ := HA.out.below hbl k hlt
        obtain ⟨b2, o2, a2, c2, rfl, h2, hi2⟩ := HB.out.below hbl k hlt
        have hkr := HRr.out k hlt
        have hki : (k : Int) < (L.length : Int) := by omega
        have HIk := Lib.hid (HIn.out (L.getD k []) a1 a2 c1 c2 wr.drew hi1 hi2 (by omega))
        clear hbl hi1 hi2
        generalize L.getD k [] = row at *
        generalize hrl : row.length = rl at *
        clear hrl
        go_wp2_with fail
        go_still_tail 10, (by kernel_rfl)
        change wpList _ _ _ _ _ wr.drew
        go_wp2_with fail
        refine HIk.out.mono ?_; rintro e w5 ⟨rfl, hb5, _⟩
        have HB5 := Lib.hid (HBl.out.trans ((below_of_drew hb5).mono HBl.out.size))
        clear hb5 c5 d5 h1 h2
        go_wp2_with fail
        go_roundw
        case rel => exact ⟨k + 1, by omega, by go_num, HB5.out⟩
        case measure => simp [intOf]; omega
      · obtain rfl : k = L.length := by omega
        clear hbl
        go_wp2_with fail
        refine (HSg.out _ _).mono ?_; rintro e w5 ⟨rfl, rfl⟩
        go_wp2_with fail
        go_ret
        exact ⟨rfl, by rw [HQ.out]; exact HB0.out.trans (HBl.out.mono (by omega))⟩
theorem outcome_same (n : Int) (L : List (List Int)) (a b : Option Addr) (ca cb : Nat) (w : World) (ha : RowsIn w a L) (hb : RowsIn w b L) (hl : L.length ≤ 1000) (hr : ∀ k, k < L.length → (L.getD k []).length ≤ 1000) (hn : isW n) :
    Calls Tryz.prog 31 #[outV n (.slice a L.length ca), outV n (.slice b L.length cb)] w fun e w' => e = .returned (.bool true) ∧ Below w.heap.size w w' := by
  have hal : Below w.heap.size w ((w.alloc (.cells #[.int .i64 0, .bool false, .int .i64 0, .int .u32 n, .slice a L.length ca] 45)).alloc (.cells #[.int .i64 0, .bool false, .int .i64 0, .int .u32 n, .slice b L.length cb] 45)) := ((Below.refl _ _).alloc (Nat.le_refl _) _).alloc (by simp) _
  have hr1 : ((w.alloc (.cells #[.int .i64 0, .bool false, .int .i64 0, .int .u32 n, .slice a L.length ca] 45)).alloc (.cells #[.int .i64 0, .bool false, .int .i64 0, .int .u32 n, .slice b L.length cb] 45)).heap[w.heap.size + 1]? = some ((.cells #[.int .i64 0, .bool false, .int .i64 0, .int .u32 n, .slice b L.length cb] 45) : Obj) := by
    have := heap_alloc_new (w.alloc (.cells #[.int .i64 0, .bool false, .int .i64 0, .int .u32 n, .slice a L.length ca] 45)) (.cells #[.int .i64 0, .bool false, .int .i64 0, .int .u32 n, .slice b L.length cb] 45)
    simpa using this
  have hr0 : ((w.alloc (.cells #[.int .i64 0, .bool false, .int .i64 0, .int .u32 n, .slice a L.length ca] 45)).alloc (.cells #[.int .i64 0, .bool false, .int .i64 0, .int .u32 n, .slice b L.length cb] 45)).heap[w.heap.size]? = some ((.cells #[.int .i64 0, .bool false, .int .i64 0, .int .u32 n, .slice a L.length ca] 45) : Obj) := by
    rw [Below.heap_alloc _ _ _ (by simp)]
    exact heap_alloc_new _ _
  have HB0 := Lib.hid hal
  have HC := Lib.hid (compare_same n L a b ca cb ((w.alloc (.cells #[.int .i64 0, .bool false, .int .i64 0, .int .u32 n, .slice a L.length ca] 45)).alloc (.cells #[.int .i64 0, .bool false, .int .i64 0, .int .u32 n, .slice b L.length cb] 45)) (ha.below hal) (hb.below hal) hl hr hn)
  have a0 := cell_of_row _ _ 0 _ _ _ hr0; have a1 := cell_of_row _ _ 1 _ _ _ hr0; have a2 := cell_of_row _ _ 2 _ _ _ hr0; have a3 := cell_of_row _ _ 3 _ _ _ hr0; have a4 := cell_of_row _ _ 4 _ _ _ hr0
  have b0 := cell_of_row _ _ 0 _ _ _ hr1; have b1 := cell_of_row _ _ 1 _ _ _ hr1; have b2 := cell_of_row _ _ 2 _ _ _ hr1; have b3 := cell_of_row _ _ 3 _ _ _ hr1; have b4 := cell_of_row _ _ 4 _ _ _ hr1
  have hz1 : w.heap.size ≤ ((w.alloc (.cells #[.int .i64 0, .bool false, .int .i64 0, .int .u32 n, .slice a L.length ca] 45)).alloc (.cells #[.int .i64 0, .bool false, .int .i64 0, .int .u32 n, .slice b L.length cb] 45)).heap.size := by simp; omega
  have q0 : ((0 : Int) == 0) = true := rfl
  obtain ⟨n0, n1⟩ := hn
  clear hal hr0 hr1 ha hb hr
  unfold outV at HC ⊢
  go_enter Tryz.func31, Tryz.ntmps31
  go_upto_region 1 with fail
  generalize hq : w.heap.size = q at *
  have HQ := Lib.hid hq
  generalize ((w.alloc _).alloc _) = w1 at *
  clear hq
  go_wp2_with fail
  refine HC.out.mono ?_; rintro e w2 ⟨rfl, hb2⟩
  have HX := Lib.hid (HB0.out.trans (hb2.mono hz1))
  clear hb2 a0 a1 a2 a3 a4 b0 b1 b2 b3 b4
  go_wp2_with fail
  go_ret
  exact ⟨rfl, by rw [HQ.out]; exact HX.out⟩
theorem outcome_same20 (n : Int) (L : List (List Int)) (a b : Option Addr) (ca cb : Nat) (w : World) (ha : RowsIn w a L) (hb : RowsIn w b L) (hl : L.length ≤ 1000) (hr : ∀ k, k < L.length → (L.getD k []).length ≤ 1000) (hn : isW n) :
    Calls Tryz.prog 13 #[outV n (.slice a L.length ca), outV n (.slice b L.length cb)] w fun e w' => e = .returned (.bool true) ∧ Below w.heap.size w w' := by
  have hal : Below w.heap.size w ((w.alloc (.cells #[.int .i64 0, .bool false, .int .i64 0, .int .u32 n, .slice a L.length ca] 45)).alloc (.cells #[.int .i64 0, .bool false, .int .i64 0, .int .u32 n, .slice b L.length cb] 45)) := ((Below.refl _ _).alloc (Nat.le_refl _) _).alloc (by simp) _
  have hr1 : ((w.alloc (.cells #[.int .i64 0, .bool false, .int .i64 0, .int .u32 n, .slice a L.length ca] 45)).alloc (.cells #[.int .i64 0, .bool false, .int .i64 0, .int .u32 n, .slice b L.length cb] 45)).heap[w.heap.size + 1]? = some ((.cells #[.int .i64 0, .bool false, .int .i64 0, .int .u32 n, .slice b L.length cb] 45) : Obj) := by
    have := heap_alloc_new (w.alloc (.cells #[.int .i64 0, .bool false, .int .i64 0, .int .u32 n, .slice a L.length ca] 45)) (.cells #[.int .i64 0, .bool false, .int .i64 0, .int .u32 n, .slice b L.length cb] 45)
    simpa using this
  have hr0 : ((w.alloc (.cells #[.int .i64 0, .bool false, .int .i64 0, .int .u32 n, .slice a L.length ca] 45)).alloc (.cells #[.int .i64 0, .bool false, .int .i64 0, .int .u32 n, .slice b L.length cb] 45)).heap[w.heap.size]? = some ((.cells #[.int .i64 0, .bool false, .int .i64 0, .int .u32 n, .slice a L.length ca] 45) : Obj) := by
    rw [Below.heap_alloc _ _ _ (by simp)]
    exact heap_alloc_new _ _
  have HB0 := Lib.hid hal
  have HC := Lib.hid (outcome_same n L a b ca cb ((w.alloc (.cells #[.int .i64 0, .bool false, .int .i64 0, .int .u32 n, .slice a L.length ca] 45)).alloc (.cells #[.int .i64 0, .bool false, .int .i64 0, .int .u32 n, .slice b L.length cb] 45)) (ha.below hal) (hb.below hal) hl hr hn)
  have a0 := cell_of_row _ _ 0 _ _ _ hr0; have a1 := cell_of_row _ _ 1 _ _ _ hr0; have a2 := cell_of_row _ _ 2 _ _ _ hr0; have a3 := cell_of_row _ _ 3 _ _ _ hr0; have a4 := cell_of_row _ _ 4 _ _ _ hr0
  have b0 := cell_of_row _ _ 0 _ _ _ hr1; have b1 := cell_of_row _ _ 1 _ _ _ hr1; have b2 := cell_of_row _ _ 2 _ _ _ hr1; have b3 := cell_of_row _ _ 3 _ _ _ hr1; have b4 := cell_of_row _ _ 4 _ _ _ hr1
  have hz1 : w.heap.size ≤ ((w.alloc (.cells #[.int .i64 0, .bool false, .int .i64 0, .int .u32 n, .slice a L.length ca] 45)).alloc (.cells #[.int .i64 0, .bool false, .int .i64 0, .int .u32 n, .slice b L.length cb] 45)).heap.size := by simp; omega
  obtain ⟨n0, n1⟩ := hn
  clear hal hr0 hr1 ha hb hr
  unfold outV at HC ⊢
  go_enter Tryz.func13, Tryz.ntmps13
  go_upto_region 1 with fail
  generalize hq : w.heap.size = q at *
  have HQ := Lib.hid hq
  generalize ((w.alloc _).alloc _) = w1 at *
  clear hq
  go_wp2_with fail
  refine HC.out.mono ?_; rintro e w2 ⟨rfl, hb2⟩
  have HX := Lib.hid (HB0.out.trans (hb2.mono hz1))
  clear hb2 a0 a1 a2 a3 a4 b0 b1 b2 b3 b4
  go_wp2_with fail
  go_ret
  exact ⟨rfl, by rw [HQ.out]; exact HX.out⟩
end Go.Proofs.YtpdbokbmchlgpaaGreat.PK
namespace Go.Proofs.YtpdbokbmchlgpaaGreat.PK
open Go.RowKit Go.Joins Go.Deep Go.ChangeShapes Go.WideShapes

/-- A poke, plainly: an index and a byte. -/
structure Pk where
  p : Int
  y : Int
def pkA (l : List Pk) (k : Nat) : Pk := l.getD k ⟨0, 0⟩
/-- The cells of a slice are these pokes. -/
def PksIn (w : World) (a : Option Addr) (l : List Pk) : Prop := ∀ k, k < l.length → ∃ b o, a = some ⟨b, o, none⟩ ∧ w.cell? ⟨b, o + k * 2, none⟩ = some (.int .i64 (pkA l k).p) ∧ w.cell? ⟨b, o + k * 2 + 1, none⟩ = some (.int .u8 (pkA l k).y)
theorem PksIn.below {w w' : World} {a : Option Addr} {l : List Pk} (h : PksIn w a l) (hb : Below w.heap.size w w') : PksIn w' a l := fun k hk => by
  obtain ⟨b, o, e, h1, h2⟩ := h k hk
  exact ⟨b, o, e, keep h1 hb, keep h2 hb⟩
theorem pkU8_cells : Tryz.prog.cellsOf 5 = 1 := by kernel_rfl
set_option maxRecDepth 100000 in
theorem poke_cells {H : Type} {enc : TypeId × Value → H} {w : World} {base fuel : Nat} {held : Bool} {cs : List Value} {x : DataW H × List MemPlace}
    (h : DataW.trod enc Tryz.prog w base (fun _ => true) held fuel 40 cs = some x) :
    ∃ q : Pk, cs = [.int .i64 q.p, .int .u8 q.y] ∧ 0 ≤ q.y ∧ q.y < 256 := by
  obtain ⟨xs, m, rfl, _, hlen, hxl, hf⟩ := DataW.trod_struct Tryz.underlying40 h
  have c6 : Tryz.prog.cellsOf 40 = 2 := by kernel_rfl
  rw [c6] at hlen
  match cs, hlen with
  | [v0, v1], _ =>
    match xs, hxl with
    | [y0, y1], _ =>
      have g0 : DataW.trod enc Tryz.prog w base (fun _ => true) held m 3 [v0] = some y0 := by have := hf 0 _ rfl; simpa [int_cells, pkU8_cells] using this
      have g1 : DataW.trod enc Tryz.prog w base (fun _ => true) held m 5 [v1] = some y1 := by have := hf 1 _ rfl; simpa [int_cells, pkU8_cells] using this
      obtain ⟨x0, h0, _, w0⟩ := DataW.trod_int Tryz.underlying3 g0
      obtain ⟨x1, h1, _, w1⟩ := DataW.trod_int Tryz.underlying5 g1
      simp at h0 h1
      have h40 : 0 ≤ x1 := by simp [Lit.wf, IntKind.min, IntKind.max, IntKind.bits, IntKind.signed] at w1; omega
      have h41 : x1 < 256 := by simp [Lit.wf, IntKind.min, IntKind.max, IntKind.bits, IntKind.signed] at w1; omega
      exact ⟨⟨x0, x1⟩, by rw [h0, h1], h40, h41⟩
set_option maxRecDepth 100000 in
theorem open_pokes {H : Type} {enc : TypeId × Value → H} {w : World} {base fuel : Nat} {held : Bool} {v : Value} {x : DataW H × List MemPlace}
    (h : DataW.trod enc Tryz.prog w base (fun _ => true) held fuel 38 [v] = some x) :
    ∃ a cap l, v = .slice a l.length cap ∧ PksIn w a l ∧ l.length ≤ maxLen ∧ ∀ k, k < l.length → 0 ≤ (pkA l k).y ∧ (pkA l k).y < 256 := by
  have c6 : Tryz.prog.cellsOf 40 = 2 := by kernel_rfl
  rcases Deep.open_slice Tryz.underlying38 h with ⟨hv, _⟩ | ⟨a, len, cap, m, n, D, Pq, hv, _, hlc, hcm, hm, _, hall⟩
  · simp only [List.cons.injEq, and_true] at hv
    exact ⟨none, 0, [], hv, fun _ hk => absurd hk (Nat.not_lt_zero _), Nat.zero_le _, fun _ hk => absurd hk (Nat.not_lt_zero _)⟩
  · simp only [List.cons.injEq, and_true] at hv
    rw [if_pos rfl] at hm
    have hex : ∀ i, ∃ q : Pk, i < cap → (w.cell? (a.add (i * 2)) = some (.int .i64 q.p) ∧ w.cell? (a.add (i * 2 + 1)) = some (.int .u8 q.y)) ∧ 0 ≤ q.y ∧ q.y < 256 := fun i => by
      by_cases hi : i < cap
      · obtain ⟨cs', h1, h2⟩ := hall i (by omega)
        obtain ⟨q, rfl, h3, h4⟩ := poke_cells h2
        rw [c6] at h1
        obtain ⟨_, hlen, hcell⟩ := World.cells?_some h1
        have e0 := hcell 0 (by omega)
        have e1 := hcell 1 (by omega)
        rw [Deep.add_add] at e0 e1
        exact ⟨q, fun _ => ⟨⟨by simpa using e0, by simpa using e1⟩, h3, h4⟩⟩
      · exact ⟨⟨0, 0⟩, fun h => absurd h hi⟩
    obtain ⟨f, hf⟩ := Classical.axiomOfChoice hex
    have eg : ∀ k, k < len → pkA ((List.range len).map f) k = f k := fun k hk => by
      unfold pkA
      simp [List.getD_eq_getElem?_getD, hk]
    refine ⟨some a, cap, (List.range len).map f, by simpa using hv, fun k hk => ?_, by simp; exact Nat.le_trans hlc hcm, fun k hk => ?_⟩
    · have hk : k < len := by simpa using hk
      obtain ⟨⟨h0, h1⟩, _⟩ := hf k (by omega)
      obtain ⟨⟨h10, _⟩, _⟩ := hf 0 (by omega)
      have hfl : a = ⟨a.block, a.off, none⟩ := by
        have e : a.add (0 * 2) = a := by unfold Addr.add; simp
        rw [e] at h10
        exact addr_flat h10
      rw [eg k hk]
      rw [add_flat hfl] at h0 h1
      exact ⟨a.block, a.off, by rw [← hfl], h0, by rw [Nat.add_assoc]; exact h1⟩
    · have hk : k < len := by simpa using hk
      rw [eg k hk]
      exact (hf k (by omega)).2
set_option maxRecDepth 100000 in
theorem pokes_one {w : World} {base : Nat} {v : Value} (h : Value.okWide Tryz.prog w .any base 38 v) : v.cells.toList = [v] := by
  unfold Value.okWide at h
  rw [Tryz.underlying38] at h
  cases v with
  | agg cs => simp [Cell.okWide, Cell.ok, Tryz.underlying38] at h
  | _ => rfl
end Go.Proofs.YtpdbokbmchlgpaaGreat.PK
