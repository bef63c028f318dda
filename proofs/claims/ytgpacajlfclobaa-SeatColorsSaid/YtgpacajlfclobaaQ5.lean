/- The walk of fits. -/
import Derived.Test.YtgpacajlfclobaaQ7
namespace Go.Proofs.Ytgpacajlfclobaa
open Go.RowKit
set_option maxHeartbeats 1000000 in
theorem idx_fit (pa po pc : Nat) (p : Int × Int → Bool) (xs : List (Int × Int)) (a : Option Addr) (cap : Nat) (w : World) (hin : MovesIn w a xs) (hl : xs.length ≤ 1000)
    (hp : ∀ k w', k < xs.length → Below w.heap.size w w' → Calls Try.prog 38 #[.agg #[.int .i64 (xs.getD k (0, 0)).1, .int .i64 (xs.getD k (0, 0)).2], .pointer (some ⟨pa, 0, none⟩), .pointer (some ⟨po, 0, none⟩), .pointer (some ⟨pc, 0, none⟩)] w' fun e w'' => e = .returned (.bool (p (xs.getD k (0, 0)))) ∧ Below w'.heap.size w' w'') :
    Calls Try.prog 47 #[.slice a xs.length cap, .func (.func 38) #[] #[.pointer (some ⟨pa, 0, none⟩), .pointer (some ⟨po, 0, none⟩), .pointer (some ⟨pc, 0, none⟩)]] w (AnyPost xs p w) := by
  have HI := Lib.hid hin; have HP := Lib.hid hp
  clear hin hp
  go_enter Try.func47, Try.ntmps47
  go_wp2_with fail
  go_loopw [8] (fun i wr => ∃ k : Nat, k ≤ xs.length ∧ i = .int .i64 k ∧ NoneYet xs p k ∧ Below w.heap.size w wr) (fun i _ => xs.length - (intOf i).toNat)
  case atStart => exact ⟨0, Nat.zero_le _, rfl, NoneYet.zero, Below.refl _ _⟩
  case round =>
    obtain ⟨k, hk, rfl, hny, hb⟩ := hrel
    by_cases hlt : k < xs.length
    · have HB := Lib.hid hb; have HN := Lib.hid hny; clear hny
      obtain ⟨b, off, rfl, hc1, hc2⟩ := HI.out.below hb k hlt
      have HC := Lib.hid (HP.out k wr hlt hb)
      clear hb
      generalize hx : xs.getD k (0, 0) = x at *
      have HX := Lib.hid hx; clear hx
      obtain ⟨x1, x2⟩ := x
      have hc1 : wr.cell? ⟨b, off + k * 2, none⟩ = some (.int .i64 x1) := hc1
      have hc2 : wr.cell? ⟨b, off + k * 2 + 1, none⟩ = some (.int .i64 x2) := hc2
      have HC : Hid (Calls Try.prog 38 #[.agg #[.int .i64 x1, .int .i64 x2], .pointer (some ⟨pa, 0, none⟩), .pointer (some ⟨po, 0, none⟩), .pointer (some ⟨pc, 0, none⟩)] wr fun e w'' => e = .returned (.bool (p (x1, x2))) ∧ Below wr.heap.size wr w'') := HC
      cases hpx : p (x1, x2)
      · rw [hpx] at HC
        have HPX := Lib.hid hpx; clear hpx
        go_wp2_with (first | (go_at_call 38; refine HC.out.mono ?_; rintro e w2 ⟨rfl, hb2⟩))
        go_roundw
        case rel => exact ⟨k + 1, by omega, by go_num, HN.out.next (d := (0, 0)) hlt (by rw [HX.out]; exact HPX.out), HB.out.trans (hb2.mono HB.out.size)⟩
        case measure => simp [intOf]; omega
      · rw [hpx] at HC
        have HPX := Lib.hid hpx; clear hpx
        go_wp2_with (first | (go_at_call 38; refine HC.out.mono ?_; rintro e w2 ⟨rfl, hb2⟩))
        go_ret
        exact ⟨k, rfl, by rw [any_here (d := (0, 0)) hlt (by rw [HX.out]; exact HPX.out)]; simp, HB.out.trans (hb2.mono HB.out.size)⟩
    · obtain rfl : k = xs.length := by omega
      go_wp2_with fail
      go_ret
      exact ⟨-1, rfl, by rw [hny.fin]; rfl, hb⟩
theorem con_fit (pa po pc : Nat) (p : Int × Int → Bool) (xs : List (Int × Int)) (a : Option Addr) (cap : Nat) (w : World) (hin : MovesIn w a xs) (hl : xs.length ≤ 1000)
    (hp : ∀ k w', k < xs.length → Below w.heap.size w w' → Calls Try.prog 38 #[.agg #[.int .i64 (xs.getD k (0, 0)).1, .int .i64 (xs.getD k (0, 0)).2], .pointer (some ⟨pa, 0, none⟩), .pointer (some ⟨po, 0, none⟩), .pointer (some ⟨pc, 0, none⟩)] w' fun e w'' => e = .returned (.bool (p (xs.getD k (0, 0)))) ∧ Below w'.heap.size w' w'') :
    Calls Try.prog 33 #[.slice a xs.length cap, .func (.func 38) #[] #[.pointer (some ⟨pa, 0, none⟩), .pointer (some ⟨po, 0, none⟩), .pointer (some ⟨pc, 0, none⟩)]] w fun e w' => e = .returned (.bool (xs.any p)) ∧ Below w.heap.size w w' := by
  have HC := Lib.hid (idx_fit pa po pc p xs a cap w hin hl hp)
  clear hin hp
  go_enter Try.func33, Try.ntmps33
  go_wp2_with (first | (go_at_call 47; refine HC.out.mono ?_; rintro e w2 ⟨r, rfl, hr, hb2⟩))
  go_wp2_with fail
  go_ret
  exact ⟨rfl, hb2⟩

set_option maxRecDepth 100000 in
set_option maxHeartbeats 1000000 in
theorem fits_any (es : List (Int × Int)) (a : Option Addr) (cap v c n q pe po : Nat) (g : Regs) (w : World) (hin : MovesIn w a es) (hl : es.length ≤ 1000) (he : edgedB (n : Nat) es = true)
    (hpe : w.cell? ⟨pe, 0, none⟩ = some (.slice a es.length cap)) (hpo : w.cell? ⟨po, 0, none⟩ = some (.slice (some ⟨q, 0, none⟩) n n)) (hrow : NRow w q n g) :
    Calls Try.prog 37 #[.int .i64 (v : Nat), .int .i64 (c : Nat), .pointer (some ⟨pe, 0, none⟩), .pointer (some ⟨po, 0, none⟩)] w fun e w' => e = .returned (.bool (fitF (toN es) g v c)) ∧ Below w.heap.size w w' := by
  have hb0 : Below w.heap.size w ((w.alloc (.cells #[.int .i64 (v : Nat)] 3)).alloc (.cells #[.int .i64 (c : Nat)] 3)) := ((Below.refl _ _).alloc (Nat.le_refl _) _).alloc (by simp) _
  have hca : ((w.alloc (.cells #[.int .i64 (v : Nat)] 3)).alloc (.cells #[.int .i64 (c : Nat)] 3)).cell? ⟨w.heap.size, 0, none⟩ = some (.int .i64 (v : Nat)) := by
    refine keep (w := w.alloc (.cells #[.int .i64 (v : Nat)] 3)) (by simp [go_sem]) ((Below.refl _ _).alloc (Nat.le_refl _) _)
  have hcc : ((w.alloc (.cells #[.int .i64 (v : Nat)] 3)).alloc (.cells #[.int .i64 (c : Nat)] 3)).cell? ⟨w.heap.size + 1, 0, none⟩ = some (.int .i64 (c : Nat)) := by simp [go_sem]
  have hsz : w.heap.size ≤ ((w.alloc (.cells #[.int .i64 (v : Nat)] 3)).alloc (.cells #[.int .i64 (c : Nat)] 3)).heap.size := by simp; omega
  have hpe0 := keep hpe hb0
  obtain ⟨_, hn12, heok⟩ := edged_ok he
  have hany : (es.any fun e => touchF g v c (e.1.toNat, e.2.toNat)) = (toN es).any (touchF g v c) := by
    unfold toN
    rw [List.any_map]
    rfl
  have HC := Lib.hid (con_fit w.heap.size po (w.heap.size + 1) (fun e => touchF g v c (e.1.toNat, e.2.toNat)) es a cap _ (hin.below hb0) hl fun j w'' hj hb2 => by
    have hm : es.getD j (0, 0) ∈ es := by rw [List.getD_eq_getElem?_getD, List.getElem?_eq_getElem hj]; simp
    have h3 := heok _ hm
    have := touch_any (es.getD j (0, 0)).1.toNat (es.getD j (0, 0)).2.toNat v c n q w.heap.size po (w.heap.size + 1) g w'' (keep hca hb2) (keep (keep hpo hb0) hb2) (keep hcc hb2) ((hrow.below hb0).below hb2) (by omega) (by omega) (by omega)
    rw [Int.toNat_of_nonneg h3.1.1, Int.toNat_of_nonneg h3.2.1.1] at this
    exact this)
  rw [hany] at HC
  have HB0 := Lib.hid hb0
  have hpel : pe < w.heap.size := block_lt_of_cell hpe
  unfold fitF
  clear hb0 hca hcc hany hin hrow hpo he heok
  generalize (toN es).any (touchF g v c) = B at *
  cases B
  all_goals
    go_enter Try.func37, Try.ntmps37
    go_wp2_with fail
    refine HC.out.mono ?_; rintro e w1 ⟨rfl, hb1⟩
    go_wp2_with fail
    go_ret
    exact ⟨rfl, HB0.out.trans (hb1.mono hsz)⟩
end Go.Proofs.Ytgpacajlfclobaa
