/- Packed of several texts. -/
import Derived.Shelf.Slices.SearchI
import Derived.Shelf.Slices.Clone
import Derived.Shelf.Slices.Turned
import Derived.Shelf.Slices.Equal
import Derived.Shelf.Slices.Empties2
import Derived.Shelf.Slices.Empties
import Derived.Test.YtpdbokbmchlgpaaGreatProg
import Derived.Test.YtpdbokbmchlgpaaGreatK02
import Derived.Sort.OwnSortedInts
import Derived.Laws.Rows
import Derived.Deep.Cut
import Derived.Outline
namespace Go.Proofs
open Go.Shelf
def Tryz.lays107_ren : Go.Shelf.Ren := ⟨fun | 107 => 134 | 108 => 169 | n => n, fun | 28 => 22 | 3 => 3 | 4 => 4 | 0 => 0 | n => n, fun | n => n⟩
theorem Tryz.lays107 : Go.Proofs.Lays.n107 Tryz.prog Tryz.lays107_ren := {
  mixed := by kernel_rfl
  f107 := Tryz.func134.trans (congrArg some (by kernel_rfl))
  f108 := Tryz.func169.trans (congrArg some (by kernel_rfl))
  t0 := Tryz.underlying0
  a0 := Tryz.isAgg0
  z0 := Tryz.sizeOf0
  v0 := Tryz.zeroValue0
  t3 := Tryz.underlying3
  a3 := Tryz.isAgg3
  z3 := Tryz.sizeOf3
  v3 := Tryz.zeroValue3
  t4 := Tryz.underlying4
  a4 := Tryz.isAgg4
  z4 := Tryz.sizeOf4
  v4 := Tryz.zeroValue4
  t28 := Tryz.underlying22
  a28 := Tryz.isAgg22
  z28 := Tryz.sizeOf22
  v28 := Tryz.zeroValue22 }
open Go.Lib in
theorem Tryz.slices_Contains_int (b off n c : Nat) (zs : List Int) (x : Int) (w : World) (hz : n ≤ zs.length) (hbig : n ≤ 9223372036854775807) (hc : ∀ j, j < zs.length → w.cell? ⟨b, off + j, none⟩ = some (.int .i64 (zs.getD j 0))) :
    Calls Tryz.prog 134 #[.slice (some ⟨b, off, none⟩) n c, .int .i64 x] w fun e w' => e = .returned (.bool ((zs.take n).contains x)) ∧ w' = w := Any.slices_Contains_int Tryz.lays107 b off n c zs x w hz hbig hc
open Go.Lib in
theorem Tryz.slices_Contains_int_empty (a : Option Addr) (c : Nat) (x : Int) (w : World) :
    Calls Tryz.prog 134 #[.slice a 0 c, .int .i64 x] w fun e w' => e = .returned (.bool false) ∧ w' = w := Any.slices_Contains_int_empty Tryz.lays107 a c x w
def Tryz.lays111_ren : Go.Shelf.Ren := ⟨fun | 111 => 128 | n => n, fun | 28 => 22 | 3 => 3 | 4 => 4 | 0 => 0 | n => n, fun | n => n⟩
theorem Tryz.lays111 : Go.Proofs.Lays.n111 Tryz.prog Tryz.lays111_ren := {
  mixed := by kernel_rfl
  f111 := Tryz.func128.trans (congrArg some (by kernel_rfl))
  t0 := Tryz.underlying0
  a0 := Tryz.isAgg0
  z0 := Tryz.sizeOf0
  v0 := Tryz.zeroValue0
  t3 := Tryz.underlying3
  a3 := Tryz.isAgg3
  z3 := Tryz.sizeOf3
  v3 := Tryz.zeroValue3
  t4 := Tryz.underlying4
  a4 := Tryz.isAgg4
  z4 := Tryz.sizeOf4
  v4 := Tryz.zeroValue4
  t28 := Tryz.underlying22
  a28 := Tryz.isAgg22
  z28 := Tryz.sizeOf22
  v28 := Tryz.zeroValue22 }
open Go.RowKit Go.Lib in
theorem Tryz.slices_Equal_int (b1 o1 n c b2 o2 m d : Nat) (xs ys : List Int) (w : World) (hx : n ≤ xs.length) (hy : m ≤ ys.length) (hbig : n ≤ 9223372036854775807) (hbig2 : m ≤ 9223372036854775807) (hc1 : ∀ j, j < xs.length → w.cell? ⟨b1, o1 + j, none⟩ = some (.int .i64 (xs.getD j 0))) (hc2 : ∀ j, j < ys.length → w.cell? ⟨b2, o2 + j, none⟩ = some (.int .i64 (ys.getD j 0))) :
    Calls Tryz.prog 128 #[.slice (some ⟨b1, o1, none⟩) n c, .slice (some ⟨b2, o2, none⟩) m d] w fun e w' => e = .returned (.bool (xs.take n == ys.take m)) ∧ ∃ q, w' = w.drewN q := Any.slices_Equal_int Tryz.lays111 b1 o1 n c b2 o2 m d xs ys w hx hy hbig hbig2 hc1 hc2
open Go.RowKit Go.Lib in
theorem Tryz.slices_Equal_int_empty (a1 a2 : Option Addr) (c m d : Nat) (w : World) (hbig2 : m ≤ 9223372036854775807) :
    Calls Tryz.prog 128 #[.slice a1 0 c, .slice a2 m d] w fun e w' => e = .returned (.bool (decide (m = 0))) ∧ w' = w := Any.slices_Equal_int_empty Tryz.lays111 a1 a2 c m d w hbig2
def Tryz.laysNm215_ren : Go.Shelf.Ren := ⟨fun | 15 => 33 | n => n, fun | 22 => 22 | 3 => 3 | 4 => 4 | n => n, fun | n => n⟩
theorem Tryz.laysNm215 : Go.Proofs.Lays2.n15 Tryz.prog Tryz.laysNm215_ren := {
  mixed := by kernel_rfl
  f15 := Tryz.func33.trans (congrArg some (by kernel_rfl))
  t3 := Tryz.underlying3
  a3 := Tryz.isAgg3
  z3 := Tryz.sizeOf3
  v3 := Tryz.zeroValue3
  t4 := Tryz.underlying4
  a4 := Tryz.isAgg4
  z4 := Tryz.sizeOf4
  v4 := Tryz.zeroValue4
  t22 := Tryz.underlying22
  a22 := Tryz.isAgg22
  z22 := Tryz.sizeOf22
  v22 := Tryz.zeroValue22
  i3 := by kernel_rfl }
open Go.RowKit Go.Lib in
theorem Tryz.slices_Clone_int (b off n c : Nat) (zs : List Int) (w : World) (hz : n ≤ zs.length) (hbig : n * 8 ≤ 140737488355328) (hc : ∀ j, j < zs.length → w.cell? ⟨b, off + j, none⟩ = some (.int .i64 (zs.getD j 0))) :
    Calls Tryz.prog 33 #[.slice (some ⟨b, off, none⟩) n c] w fun e w' => ∃ v', e = .returned v' ∧ w'.ownsRow w.heap.size 3 1 v' n ((zs.take n).map (Value.int .i64)) ∧ v' ≠ .slice none 0 0 ∧ Below w.heap.size w w' := Any.slices_Clone_int Tryz.laysNm215 b off n c zs w hz hbig hc
open Go.RowKit Go.Lib in
theorem Tryz.slices_Clone_int_nil (n c : Nat) (w : World) :
    Calls Tryz.prog 33 #[.slice none n c] w fun e w' => e = .returned (.slice none 0 0) ∧ w' = w := Any.slices_Clone_int_nil Tryz.laysNm215 n c w
open Go.RowKit Go.Lib in
theorem Tryz.slices_Clone_int_zero (a : Addr) (c : Nat) (w : World) :
    Calls Tryz.prog 33 #[.slice (some a) 0 c] w fun e w' => ∃ v', e = .returned v' ∧ w'.ownsRow w.heap.size 3 1 v' 0 [] ∧ v' ≠ .slice none 0 0 ∧ Below w.heap.size w w' := Any.slices_Clone_int_zero Tryz.laysNm215 a c w
open Go.RowKit Go.Lib in
theorem Tryz.slices_Equal_int_lens (a1 a2 : Option Addr) (n c m d : Nat) (w : World) (hnm : n ≠ m) :
    Calls Tryz.prog 128 #[.slice a1 n c, .slice a2 m d] w fun e w' => e = .returned (.bool false) ∧ w' = w := Any.slices_Equal_int_lens Tryz.lays111 a1 a2 n c m d w hnm
end Go.Proofs
namespace Go.Proofs.YtpdbokbmchlgpaaGreat.PK
open Go.RowKit Go.Sort

theorem keepB {B : Nat} {w w' : World} {b off : Nat} {v : Value} (h : w.cell? ⟨b, off, none⟩ = some v) (hb : Below B w w') (hlt : b < B) : w'.cell? ⟨b, off, none⟩ = some v := by
  rw [hb.cell (p := ⟨b, off, none⟩) hlt]; exact h
theorem contains_any (xs : List Int) (a : Option Addr) (cap : Nat) (x : Int) (w : World) (hin : IntsIn w a xs) (hl : xs.length ≤ 100000) :
    Calls Tryz.prog 134 #[.slice a xs.length cap, .int .i64 x] w fun e w' => e = .returned (.bool (xs.contains x)) ∧ w' = w := by
  by_cases h0 : xs = []
  · subst h0
    exact Tryz.slices_Contains_int_empty a cap x w
  · obtain ⟨b, off, rfl, _⟩ := hin 0 (List.length_pos_iff.2 h0)
    have := Tryz.slices_Contains_int b off xs.length cap xs x w (Nat.le_refl _) (by omega) (fun j hj => by
      obtain ⟨b', o', e, hc⟩ := hin j hj
      simp only [Option.some.injEq, Addr.mk.injEq, and_true] at e
      obtain ⟨rfl, rfl⟩ := e
      exact hc)
    rwa [List.take_length] at this
end Go.Proofs.YtpdbokbmchlgpaaGreat.PK
namespace Go.Proofs.YtpdbokbmchlgpaaGreat.PK
open Go.RowKit

/-- The first instruction at which p holds, or -1. -/
def IdxC (l : List Cd) (p : Cd → Bool) (r : Int) : Prop := (r = -1 ∧ ∀ j, j < l.length → p (atC l j) = false) ∨ (∃ k : Nat, k < l.length ∧ r = (k : Int) ∧ p (atC l k) = true ∧ ∀ j, j < k → p (atC l j) = false)
theorem anyC_true {l : List Cd} {p : Cd → Bool} : l.any p = true ↔ ∃ k, k < l.length ∧ p (atC l k) = true := by
  rw [List.any_eq_true]
  constructor
  · rintro ⟨x, hx, h⟩
    obtain ⟨k, hk, rfl⟩ := mem_atC hx
    exact ⟨k, hk, h⟩
  · rintro ⟨k, hk, h⟩; exact ⟨_, atC_mem hk, h⟩
theorem anyC_false {l : List Cd} {p : Cd → Bool} : l.any p = false ↔ ∀ k, k < l.length → p (atC l k) = false := by
  constructor
  · intro h k hk
    cases hp : p (atC l k)
    · rfl
    · rw [anyC_true.2 ⟨k, hk, hp⟩] at h; cases h
  · intro h
    cases ha : l.any p
    · rfl
    · obtain ⟨k, hk, e⟩ := anyC_true.1 ha
      rw [h k hk] at e; cases e
theorem IdxC.any {l : List Cd} {p : Cd → Bool} {r : Int} (h : IdxC l p r) : decide (0 ≤ r) = l.any p := by
  rcases h with ⟨rfl, h⟩ | ⟨k, hk, rfl, h, _⟩
  · rw [anyC_false.2 h]; rfl
  · rw [anyC_true.2 ⟨k, hk, h⟩]; simp
def IdxCPost (l : List Cd) (p : Cd → Bool) (w : World) (e : Ending) (w' : World) : Prop := ∃ r : Int, e = .returned (.int .i64 r) ∧ IdxC l p r ∧ Below w.heap.size w w'
set_option maxHeartbeats 1000000 in
theorem idxC_any (g : Nat) (lb : Array Value) (eg : ∀ args w, (callFunc g args).run Tryz.prog w = .ok (.enter g args) w) (p : Cd → Bool) (l : List Cd) (a : Option Addr) (cap : Nat) (w : World) (hin : CdsIn w a l) (hl : (l.length : Int) ≤ 9223372036854775807)
    (hp : ∀ k W, k < l.length → Below w.heap.size w W → Calls Tryz.prog g (#[(.agg #[.int .i64 (atC l k).op, .int .i64 (atC l k).d, .int .i64 (atC l k).a, .int .i64 (atC l k).b, .int .u32 (atC l k).im, .int .i64 (atC l k).to])] ++ lb) W fun e W' => e = .returned (.bool (p (atC l k))) ∧ Below W.heap.size W W') :
    Calls Tryz.prog 148 #[.slice a l.length cap, .func (.func g) #[] lb] w (IdxCPost l p w) := by
  have HI := Lib.hid hin; have HP := Lib.hid hp
  clear hin hp
  go_enter Tryz.func148, Tryz.ntmps148
  go_wp2_with fail
  go_loopw [8] (fun i wr => ∃ k : Nat, k ≤ l.length ∧ i = .int .i64 k ∧ (∀ j, j < k → p (atC l j) = false) ∧ Below w.heap.size w wr) (fun i _ => l.length - (intOf i).toNat)
  case atStart => exact ⟨0, Nat.zero_le _, rfl, fun j hj => absurd hj (Nat.not_lt_zero _), Below.refl _ _⟩
  case round =>
    obtain ⟨k, hk, rfl, hny, hb⟩ := hrel
    have HB := Lib.hid hb; have HN := Lib.hid hny; clear hny
    by_cases hlt : k < l.length
    · obtain ⟨b, off, rfl, hc⟩ := HI.out.below hb k hlt
      have HC := Lib.hid (HP.out k wr hlt hb)
      clear hb
      generalize hx : atC l k = x at *
      have HX := Lib.hid hx; clear hx
      obtain ⟨x0, x1, x2, x3, x4, x5⟩ := x
      obtain ⟨c0, c1, c2, c3, c4, c5⟩ := hc
      simp only at c0 c1 c2 c3 c4 c5
      have HC : Hid (Calls Tryz.prog g (#[.agg #[.int .i64 x0, .int .i64 x1, .int .i64 x2, .int .i64 x3, .int .u32 x4, .int .i64 x5]] ++ lb) wr fun e W' => e = .returned (.bool (p ⟨x0, x1, x2, x3, x4, x5⟩)) ∧ Below wr.heap.size wr W') := HC
      cases hpx : p ⟨x0, x1, x2, x3, x4, x5⟩
      · rw [hpx] at HC
        have HPX := Lib.hid hpx; clear hpx
        go_wp2_with (first | (go_at_fn g; refine HC.out.mono ?_; rintro e w2 ⟨rfl, hb2⟩))
        go_roundw
        case rel => exact ⟨k + 1, by omega, by go_num, fun j hj => by
          by_cases e : j = k
          · rw [e, HX.out]; exact HPX.out
          · exact HN.out j (by omega), HB.out.trans (hb2.mono HB.out.size)⟩
        case measure => simp [intOf]; omega
      · rw [hpx] at HC
        have HPX := Lib.hid hpx; clear hpx
        go_wp2_with (first | (go_at_fn g; refine HC.out.mono ?_; rintro e w2 ⟨rfl, hb2⟩))
        go_ret
        exact ⟨k, rfl, .inr ⟨k, hlt, rfl, by rw [HX.out]; exact HPX.out, HN.out⟩, HB.out.trans (hb2.mono HB.out.size)⟩
    · clear hb
      go_wp2_with fail
      go_ret
      exact ⟨-1, rfl, .inl ⟨rfl, fun j hj => HN.out j (by omega)⟩, HB.out⟩
theorem conC_any (g : Nat) (lb : Array Value) (eg : ∀ args w, (callFunc g args).run Tryz.prog w = .ok (.enter g args) w) (p : Cd → Bool) (l : List Cd) (a : Option Addr) (cap : Nat) (w : World) (hin : CdsIn w a l) (hl : (l.length : Int) ≤ 9223372036854775807)
    (hp : ∀ k W, k < l.length → Below w.heap.size w W → Calls Tryz.prog g (#[(.agg #[.int .i64 (atC l k).op, .int .i64 (atC l k).d, .int .i64 (atC l k).a, .int .i64 (atC l k).b, .int .u32 (atC l k).im, .int .i64 (atC l k).to])] ++ lb) W fun e W' => e = .returned (.bool (p (atC l k))) ∧ Below W.heap.size W W') :
    Calls Tryz.prog 89 #[.slice a l.length cap, .func (.func g) #[] lb] w fun e w' => e = .returned (.bool (l.any p)) ∧ Below w.heap.size w w' := by
  have HC := Lib.hid (idxC_any g lb eg p l a cap w hin hl hp)
  clear hin hp eg
  go_enter Tryz.func89, Tryz.ntmps89
  go_wp2_with (first | (go_at_call 148; refine HC.out.mono ?_; rintro e w2 ⟨r, rfl, hr, hb2⟩; have HR := Lib.hid hr.any; clear hr))
  go_ret
  exact ⟨ret_bool HR.out, hb2⟩
end Go.Proofs.YtpdbokbmchlgpaaGreat.PK
namespace Go.Proofs.YtpdbokbmchlgpaaGreat.PK
open Go.RowKit

def atB (ls : List (List Cd)) (k : Nat) : List Cd := ls.getD k []
theorem atB_get {ls : List (List Cd)} {k : Nat} (h : k < ls.length) : atB ls k = ls[k] := by
  unfold atB
  rw [List.getD_eq_getElem?_getD, List.getElem?_eq_getElem h]; rfl
/-- The cells of a slice are these blocks. -/
def BlkIn (w : World) (bl : Option Addr) (ls : List (List Cd)) : Prop :=
  ∀ k, k < ls.length → ∃ b off a cap, bl = some ⟨b, off, none⟩ ∧ w.cell? ⟨b, off + k, none⟩ = some (.slice a (atB ls k).length cap) ∧ CdsIn w a (atB ls k)
theorem BlkIn.below {w w' : World} {bl : Option Addr} {ls : List (List Cd)} (h : BlkIn w bl ls) (hb : Below w.heap.size w w') : BlkIn w' bl ls := fun k hk => by
  obtain ⟨b, off, a, cap, rfl, hc, hi⟩ := h k hk
  exact ⟨b, off, a, cap, rfl, keep hc hb, hi.below hb⟩
def sumL : List (List Cd) → Nat
  | [] => 0
  | l :: ls => l.length + sumL ls
theorem sumL_app (a b : List (List Cd)) : sumL (a ++ b) = sumL a + sumL b := by
  induction a with
  | nil => simp [sumL]
  | cons x a ih => simp only [List.cons_append, sumL, ih]; omega
theorem sumL_take {ls : List (List Cd)} {k : Nat} (h : k < ls.length) : sumL (ls.take (k + 1)) = sumL (ls.take k) + (atB ls k).length := by
  rw [List.take_succ_eq_append_getElem h, sumL_app, atB_get h]
  simp [sumL]
theorem sumL_small {ls : List (List Cd)} {m : Nat} (h : ∀ k, k < ls.length → (atB ls k).length ≤ m) : ∀ k, k ≤ ls.length → sumL (ls.take k) ≤ k * m
  | 0, _ => by simp [sumL]
  | k + 1, hk => by
    rw [sumL_take (by omega)]
    have := sumL_small h k (by omega)
    have := h k (by omega)
    rw [Nat.succ_mul]; omega

set_option maxHeartbeats 1000000 in
theorem size_any (regs : Int) (ls : List (List Cd)) (bl : Option Addr) (cap : Nat) (w : World) (hin : BlkIn w bl ls) (hl : ls.length ≤ 400) (hm : ∀ k, k < ls.length → (atB ls k).length ≤ 1099511627776) :
    Calls Tryz.prog 88 #[.agg #[.int .i64 regs, .slice bl ls.length cap]] w fun e w' => e = .returned (.int .i64 (sumL ls)) ∧ Below w.heap.size w w' := by
  have HI := Lib.hid hin; have HM := Lib.hid hm
  have HS := Lib.hid (sumL_small hm)
  clear hin hm
  go_enter Tryz.func88, Tryz.ntmps88
  go_wp2_with fail
  generalize hw0 : w.alloc _ = w0
  have hb0 : Below w.heap.size w w0 := by rw [← hw0]; exact (Below.refl _ _).alloc (Nat.le_refl _) _
  clear hw0
  go_loopw [3, 9] (fun n i wr => ∃ k : Nat, k ≤ ls.length ∧ n = .int .i64 (sumL (ls.take k)) ∧ i = .int .i64 k ∧ Below w.heap.size w wr) (fun _ i _ => ls.length - (intOf i).toNat)
  case atStart => exact ⟨0, Nat.zero_le _, by simp [sumL], rfl, hb0⟩
  case round =>
    obtain ⟨k, hk, rfl, rfl, hb⟩ := hrel
    have HB := Lib.hid hb
    by_cases hlt : k < ls.length
    · obtain ⟨b, off, a, cp, rfl, hc, _⟩ := HI.out.below hb k hlt
      clear hb
      have hs1 := HS.out k (by omega)
      have hs3 := HM.out k hlt
      have HT := Lib.hid (sumL_take hlt)
      generalize hsk : sumL (ls.take k) = sk at *
      generalize hbl : (atB ls k).length = m at *
      clear hsk hbl
      go_wp2_with fail
      go_roundw
      case rel => exact ⟨k + 1, by omega, by rw [HT.out]; go_num, by go_num, HB.out⟩
      case measure => simp [intOf]; omega
    · clear hb
      have hkl : k = ls.length := by omega
      subst hkl
      rw [List.take_length] 
      go_wp2_with fail
      go_ret
      exact ⟨rfl, HB.out⟩
theorem isCode_to (x : Cd) (regs blocks : Int) (w : World) : Calls Tryz.prog 91 #[(.agg #[.int .i64 x.op, .int .i64 x.d, .int .i64 x.a, .int .i64 x.b, .int .u32 x.im, .int .i64 x.to]), .int .i64 regs, .int .i64 blocks] w fun e w' => e = .returned (.bool (isCodeB x regs blocks)) ∧ Below w.heap.size w w' := isCode_any x regs blocks w
set_option maxHeartbeats 1000000 in
theorem vcl_any (x : Cd) (regs : Int) (bl : Option Addr) (n cap : Nat) (q : Nat) (w : World) (h0 : w.cell? ⟨q, 0, none⟩ = some (.int .i64 regs)) (h1 : w.cell? ⟨q, 1, none⟩ = some (.slice bl n cap)) :
    Calls Tryz.prog 90 #[(.agg #[.int .i64 x.op, .int .i64 x.d, .int .i64 x.a, .int .i64 x.b, .int .u32 x.im, .int .i64 x.to]), .pointer (some ⟨q, 0, none⟩)] w fun e w' => e = .returned (.bool (!isCodeB x regs n)) ∧ Below w.heap.size w w' := by
  have HC := Lib.hid (isCode_to x regs n)
  have HX := Lib.hid (cdAt_new w x 88)
  have HB0 := Lib.hid ((Below.refl w.heap.size w).alloc (Nat.le_refl _) (.cells #[.int .i64 x.op, .int .i64 x.d, .int .i64 x.a, .int .i64 x.b, .int .u32 x.im, .int .i64 x.to] 88))
  have h0' := keep h0 HB0.out
  have h1' := keep h1 HB0.out
  clear h0 h1
  generalize isCodeB x regs n = b at *
  obtain ⟨x0, x1, x2, x3, x4, x5⟩ := x
  have HX : Hid (CdAt (w.alloc (.cells #[.int .i64 x0, .int .i64 x1, .int .i64 x2, .int .i64 x3, .int .u32 x4, .int .i64 x5] 88)) w.heap.size 0 ⟨x0, x1, x2, x3, x4, x5⟩) := HX
  have HB0 : Hid (Below w.heap.size w (w.alloc (.cells #[.int .i64 x0, .int .i64 x1, .int .i64 x2, .int .i64 x3, .int .u32 x4, .int .i64 x5] 88))) := HB0
  have HC : Hid (∀ w : World, Calls Tryz.prog 91 #[.agg #[.int .i64 x0, .int .i64 x1, .int .i64 x2, .int .i64 x3, .int .u32 x4, .int .i64 x5], .int .i64 regs, .int .i64 n] w fun e w' => e = .returned (.bool b) ∧ Below w.heap.size w w') := HC
  have h0 : (w.alloc (.cells #[.int .i64 x0, .int .i64 x1, .int .i64 x2, .int .i64 x3, .int .u32 x4, .int .i64 x5] 88)).cell? ⟨q, 0, none⟩ = some (.int .i64 regs) := h0'
  have h1 : (w.alloc (.cells #[.int .i64 x0, .int .i64 x1, .int .i64 x2, .int .i64 x3, .int .u32 x4, .int .i64 x5] 88)).cell? ⟨q, 1, none⟩ = some (.slice bl n cap) := h1'
  clear h0' h1'
  go_enter Tryz.func90, Tryz.ntmps90
  go_wp2_with fail
  generalize w.alloc (.cells #[.int .i64 x0, .int .i64 x1, .int .i64 x2, .int .i64 x3, .int .u32 x4, .int .i64 x5] 88) = w0 at *
  obtain ⟨c0, c1, c2, c3, c4, c5⟩ := HX.out
  simp only at c0 c1 c2 c3 c4 c5
  go_wp2_with fail
  refine (HC.out _).mono ?_; rintro e w1 ⟨rfl, hb1⟩
  have HB1 := Lib.hid (HB0.out.trans (hb1.mono HB0.out.size))
  clear hb1
  go_wp2_with fail
  go_ret
  exact ⟨rfl, HB1.out⟩
end Go.Proofs.YtpdbokbmchlgpaaGreat.PK
