/- The walks of ValidateMoves, Fewest and Row of the program. -/
import Derived.Test.YtjfpaelmcepidaaR
namespace Go.Proofs.Ytjfpaelmcepidaa
open Go.RowKit

/-- The cells of a slice are these moves. -/
def MovesIn (w : World) (a : Option Addr) (l : List (Int × Int)) : Prop := ∀ k, k < l.length → ∃ b off, a = some ⟨b, off, none⟩ ∧ w.cell? ⟨b, off + k * 2, none⟩ = some (.int .i64 (l.getD k (0, 0)).1) ∧ w.cell? ⟨b, off + k * 2 + 1, none⟩ = some (.int .i64 (l.getD k (0, 0)).2)
theorem MovesIn.below {w w' : World} {a : Option Addr} {l : List (Int × Int)} (h : MovesIn w a l) (hb : Below w.heap.size w w') : MovesIn w' a l := fun k hk => by
  obtain ⟨b, off, rfl, h1, h2⟩ := h k hk
  exact ⟨b, off, rfl, keep h1 hb, keep h2 hb⟩
theorem MovesIn.take {w : World} {a : Option Addr} {l : List (Int × Int)} (h : MovesIn w a l) (i : Nat) : MovesIn w a (l.take i) := fun k hk => by
  rw [List.length_take] at hk
  have e : (l.take i).getD k (0, 0) = l.getD k (0, 0) := by
    simp only [List.getD_eq_getElem?_getD]
    rw [List.getElem?_take, if_pos (by omega)]
  rw [e]
  exact h k (by omega)
/-- Moves whose numbers are none below zero. -/
def toN (l : List (Int × Int)) : List (Nat × Nat) := l.map fun m => (m.1.toNat, m.2.toNat)
theorem toN_len (l : List (Int × Int)) : (toN l).length = l.length := by simp [toN]
theorem toN_at (l : List (Int × Int)) (k : Nat) : (toN l).getD k (0, 0) = ((l.getD k (0, 0)).1.toNat, (l.getD k (0, 0)).2.toNat) := by
  simp only [toN, List.getD_eq_getElem?_getD, List.getElem?_map]
  cases l[k]? <;> rfl
def regB (x : Int) : Bool := decide (0 ≤ x) && decide (x ≤ 30)
def badB (m : Int × Int) : Bool := !(regB m.1) || !(regB m.2)
def dupAt (l : List (Int × Int)) (i : Nat) : Bool := (l.take i).any fun x => x.1 == (l.getD i (0, 0)).1
def dupB (l : List (Int × Int)) : Bool := (List.range l.length).any (dupAt l)
/-- Which moves are right. -/
def validM (l : List (Int × Int)) : Int := if 8 < l.length then 3 else if l.any badB then 1 else if dupB l then 7 else 0
theorem valid_moves {l : List (Int × Int)} (h : validM l = 0) : MOk (toN l) ∧ ∀ m ∈ l, (0 ≤ m.1 ∧ m.1 ≤ 30) ∧ 0 ≤ m.2 ∧ m.2 ≤ 30 := by
  unfold validM at h
  by_cases h1 : 8 < l.length
  · rw [if_pos h1] at h; cases h
  rw [if_neg h1] at h
  cases h2 : l.any badB
  · rw [h2, if_neg (by simp)] at h
    cases h3 : dupB l
    · have hreg : ∀ m ∈ l, (0 ≤ m.1 ∧ m.1 ≤ 30) ∧ 0 ≤ m.2 ∧ m.2 ≤ 30 := fun m hm => by
        rw [List.any_eq_false] at h2
        have := h2 m hm
        unfold badB regB at this
        simp only [Bool.or_eq_true, Bool.not_eq_true', Bool.and_eq_false_iff, decide_eq_false_iff_not] at this
        omega
      refine ⟨⟨by rw [toN_len]; omega, fun m hm => ?_, ?_⟩, hreg⟩
      · obtain ⟨m', hm', rfl⟩ := List.mem_map.1 hm
        have := hreg m' hm'
        constructor
        · show m'.1.toNat ≤ 30; omega
        · show m'.2.toNat ≤ 30; omega
      · rw [List.nodup_iff_pairwise_ne, List.pairwise_map]
        unfold toN
        rw [List.pairwise_map, List.pairwise_iff_getElem]
        intro i j hi hj hij e
        unfold dupB at h3
        rw [List.any_eq_false] at h3
        have := h3 j (by simpa using hj)
        apply this
        unfold dupAt
        rw [List.any_eq_true]
        refine ⟨l[i], ?_, ?_⟩
        · rw [List.mem_take_iff_getElem]
          exact ⟨i, by omega, rfl⟩
        · have h4 := hreg _ (List.getElem_mem hi)
          have h5 := hreg _ (List.getElem_mem hj)
          rw [List.getD_eq_getElem?_getD, List.getElem?_eq_getElem hj]
          simp only [Option.getD_some, beq_iff_eq]
          omega
    · rw [h3, if_pos rfl] at h; cases h
  · rw [h2, if_pos rfl] at h; cases h
theorem MovesIn.pairs {w : World} {a : Option Addr} {l : List (Int × Int)} (h : MovesIn w a l) (hv : validM l = 0) : PairsIn w a (toN l) := fun k hk => by
  rw [toN_len] at hk
  obtain ⟨b, off, rfl, h1, h2⟩ := h k hk
  have hm : l.getD k (0, 0) ∈ l := by rw [List.getD_eq_getElem?_getD, List.getElem?_eq_getElem hk]; simp
  have := (valid_moves hv).2 _ hm
  rw [toN_at]
  refine ⟨b, off, rfl, ?_, ?_⟩
  · rw [h1]; show some (Value.int .i64 _) = some (Value.int .i64 ((l.getD k (0, 0)).1.toNat : Nat))
    rw [Int.toNat_of_nonneg this.1.1]
  · rw [h2]; show some (Value.int .i64 _) = some (Value.int .i64 ((l.getD k (0, 0)).2.toNat : Nat))
    rw [Int.toNat_of_nonneg this.2.1]
theorem any_take {α : Type} (xs : List α) (p : α → Bool) (d : α) (k : Nat) (hk : k < xs.length) : (xs.take (k + 1)).any p = ((xs.take k).any p || p (xs.getD k d)) := by
  rw [List.take_succ_eq_append_getElem hk, List.any_append]
  simp [List.getD_eq_getElem?_getD, List.getElem?_eq_getElem hk]
theorem any_of_take {α : Type} (xs : List α) (p : α → Bool) (k : Nat) (h : (xs.take k).any p = true) : xs.any p = true := by
  rw [List.any_eq_true] at *
  obtain ⟨x, hx, hp⟩ := h
  exact ⟨x, List.mem_of_mem_take hx, hp⟩
/-- No element so far. -/
def NoneYet {α : Type} (xs : List α) (p : α → Bool) (k : Nat) : Prop := (xs.take k).any p = false
theorem NoneYet.zero {α : Type} {xs : List α} {p : α → Bool} : NoneYet xs p 0 := by simp [NoneYet]
theorem NoneYet.next {α : Type} {xs : List α} {p : α → Bool} {k : Nat} {d : α} (h : NoneYet xs p k) (hk : k < xs.length) (hp : p (xs.getD k d) = false) : NoneYet xs p (k + 1) := by
  unfold NoneYet at *; rw [any_take xs p d k hk, h, hp]; rfl
theorem NoneYet.fin {α : Type} {xs : List α} {p : α → Bool} (h : NoneYet xs p xs.length) : xs.any p = false := by
  unfold NoneYet at h; rwa [List.take_length] at h
theorem any_here {α : Type} {xs : List α} {p : α → Bool} {k : Nat} {d : α} (hk : k < xs.length) (hp : p (xs.getD k d) = true) : xs.any p = true :=
  any_of_take xs p (k + 1) (by rw [any_take xs p d k hk, hp, Bool.or_true])
def AnyPost {α : Type} (xs : List α) (p : α → Bool) (w : World) (e : Ending) (w' : World) : Prop := ∃ r : Int, e = .returned (.int .i64 r) ∧ decide (0 ≤ r) = xs.any p ∧ Below w.heap.size w w'


theorem isReg_any (x : Int) (w : World) : Calls Try.prog 42 #[.int .i64 x] w fun e w' => e = .returned (.bool (regB x)) ∧ w = w' := by
  unfold regB
  by_cases h0 : 0 ≤ x
  · have e0 : decide (0 ≤ x) = true := decide_eq_true h0
    rw [e0, Bool.true_and]
    by_cases h1 : x ≤ 30
    · rw [decide_eq_true h1]
      go_enter Try.func42, Try.ntmps42
      go_wp2_with fail
      go_ret
      exact ⟨rfl, rfl⟩
    · rw [decide_eq_false h1]
      go_enter Try.func42, Try.ntmps42
      go_wp2_with fail
      go_ret
      exact ⟨rfl, rfl⟩
  · have e0 : decide (0 ≤ x) = false := decide_eq_false h0
    rw [e0, Bool.false_and]
    go_enter Try.func42, Try.ntmps42
    go_wp2_with fail
    go_ret
    exact ⟨rfl, rfl⟩
theorem val1_any (x y : Int) (w : World) : Calls Try.prog 79 #[.agg #[.int .i64 x, .int .i64 y]] w fun e w' => e = .returned (.bool (badB (x, y))) ∧ Below w.heap.size w w' := by
  have h1 := isReg_any x; have h2 := isReg_any y
  have hb : badB (x, y) = (!(regB x) || !(regB y)) := rfl
  rw [hb]
  have H1 := Lib.hid h1; have H2 := Lib.hid h2
  clear h1 h2 hb
  have HBl : Hid (∀ o, Below w.heap.size w (w.alloc o)) := Lib.hid fun o => (Below.refl _ _).alloc (Nat.le_refl _) _
  generalize regB x = r1 at *
  generalize regB y = r2 at *
  cases r1 <;> cases r2
  all_goals
    go_enter Try.func79, Try.ntmps79
    go_wp2_with fail
    refine (H1.out _).mono ?_; rintro e w1 ⟨rfl, rfl⟩
    go_wp2_with (first | (go_at_call 42; refine (H2.out _).mono ?_; rintro e w2 ⟨rfl, rfl⟩))
    go_ret
    exact ⟨rfl, HBl.out _⟩
theorem val2_any (x y t : Int) (p : Nat) (w : World) (hp : w.cell? ⟨p, 0, none⟩ = some (.int .i64 t)) : Calls Try.prog 80 #[.agg #[.int .i64 x, .int .i64 y], .pointer (some ⟨p, 0, none⟩)] w fun e w' => e = .returned (.bool (x == t)) ∧ Below w.heap.size w w' := by
  have HBl : Hid (∀ o, Below w.heap.size w (w.alloc o)) := Lib.hid fun o => (Below.refl _ _).alloc (Nat.le_refl _) _
  have hpw : p < w.heap.size := block_lt_of_cell hp
  generalize hxt : (x == t) = B
  cases B
  all_goals
    go_enter Try.func80, Try.ntmps80
    go_wp2_with fail
    go_ret
    exact ⟨rfl, HBl.out _⟩
theorem row1_any (x y t : Int) (p : Nat) (w : World) (hp : w.cell? ⟨p, 0, none⟩ = some (.int .i64 t)) : Calls Try.prog 44 #[.agg #[.int .i64 x, .int .i64 y], .pointer (some ⟨p, 0, none⟩)] w fun e w' => e = .returned (.bool ((x == t) || (y == t))) ∧ Below w.heap.size w w' := by
  have HBl : Hid (∀ o, Below w.heap.size w (w.alloc o)) := Lib.hid fun o => (Below.refl _ _).alloc (Nat.le_refl _) _
  have hpw : p < w.heap.size := block_lt_of_cell hp
  generalize hxt : (x == t) = B
  generalize hyt : (y == t) = C
  cases B <;> cases C
  all_goals
    go_enter Try.func44, Try.ntmps44
    go_wp2_with fail
    go_ret
    exact ⟨rfl, HBl.out _⟩

set_option maxHeartbeats 1000000 in
theorem idx_val1  (p : Int × Int → Bool) (xs : List (Int × Int)) (a : Option Addr) (cap : Nat) (w : World) (hin : MovesIn w a xs) (hl : xs.length ≤ 1000)
    (hp : ∀ k w', k < xs.length → Below w.heap.size w w' → Calls Try.prog 79 #[.agg #[.int .i64 (xs.getD k (0, 0)).1, .int .i64 (xs.getD k (0, 0)).2]] w' fun e w'' => e = .returned (.bool (p (xs.getD k (0, 0)))) ∧ Below w'.heap.size w' w'') :
    Calls Try.prog 84 #[.slice a xs.length cap, .func (.func 79) #[] #[]] w (AnyPost xs p w) := by
  have HI := Lib.hid hin; have HP := Lib.hid hp
  clear hin hp
  go_enter Try.func84, Try.ntmps84
  go_wp2_with fail
  go_loopw [8] (fun i wr => ∃ k : Nat, k ≤ xs.length ∧ i = .int .i64 k ∧ NoneYet xs p k ∧ Below w.heap.size w wr) (fun i _ => xs.length - (intOf i).toNat)
  case atStart => exact ⟨0, Nat.zero_le _, rfl, NoneYet.zero, Below.refl _ _⟩
  case round =>
    obtain ⟨k, hk, rfl, hny, hb⟩ := hrel
    by_cases hlt : k < xs.length
    · have HB := Lib.hid hb; have HN := Lib.hid hny; clear hny
      obtain ⟨b, off, rfl, hc1, hc2⟩ := HI.out.below hb k hlt
      have HC := Lib.hid (HP.out k wr hlt hb)
      clear hb
      generalize hx : xs.getD k (0, 0) = x at *
      have HX := Lib.hid hx; clear hx
      obtain ⟨x1, x2⟩ := x
      have hc1 : wr.cell? ⟨b, off + k * 2, none⟩ = some (.int .i64 x1) := hc1
      have hc2 : wr.cell? ⟨b, off + k * 2 + 1, none⟩ = some (.int .i64 x2) := hc2
      have HC : Hid (Calls Try.prog 79 #[.agg #[.int .i64 x1, .int .i64 x2]] wr fun e w'' => e = .returned (.bool (p (x1, x2))) ∧ Below wr.heap.size wr w'') := HC
      cases hpx : p (x1, x2)
      · rw [hpx] at HC
        have HPX := Lib.hid hpx; clear hpx
        go_wp2_with (first | (go_at_call 79; refine HC.out.mono ?_; rintro e w2 ⟨rfl, hb2⟩))
        go_roundw
        case rel => exact ⟨k + 1, by omega, by go_num, HN.out.next (d := (0, 0)) hlt (by rw [HX.out]; exact HPX.out), HB.out.trans (hb2.mono HB.out.size)⟩
        case measure => simp [intOf]; omega
      · rw [hpx] at HC
        have HPX := Lib.hid hpx; clear hpx
        go_wp2_with (first | (go_at_call 79; refine HC.out.mono ?_; rintro e w2 ⟨rfl, hb2⟩))
        go_ret
        exact ⟨k, rfl, by rw [any_here (d := (0, 0)) hlt (by rw [HX.out]; exact HPX.out)]; simp, HB.out.trans (hb2.mono HB.out.size)⟩
    · obtain rfl : k = xs.length := by omega
      go_wp2_with fail
      go_ret
      exact ⟨-1, rfl, by rw [hny.fin]; rfl, hb⟩
theorem con_val1  (p : Int × Int → Bool) (xs : List (Int × Int)) (a : Option Addr) (cap : Nat) (w : World) (hin : MovesIn w a xs) (hl : xs.length ≤ 1000)
    (hp : ∀ k w', k < xs.length → Below w.heap.size w w' → Calls Try.prog 79 #[.agg #[.int .i64 (xs.getD k (0, 0)).1, .int .i64 (xs.getD k (0, 0)).2]] w' fun e w'' => e = .returned (.bool (p (xs.getD k (0, 0)))) ∧ Below w'.heap.size w' w'') :
    Calls Try.prog 43 #[.slice a xs.length cap, .func (.func 79) #[] #[]] w fun e w' => e = .returned (.bool (xs.any p)) ∧ Below w.heap.size w w' := by
  have HC := Lib.hid (idx_val1  p xs a cap w hin hl hp)
  clear hin hp
  go_enter Try.func43, Try.ntmps43
  go_wp2_with (first | (go_at_call 84; refine HC.out.mono ?_; rintro e w2 ⟨r, rfl, hr, hb2⟩))
  go_wp2_with fail
  go_ret
  exact ⟨rfl, hb2⟩

set_option maxHeartbeats 1000000 in
theorem idx_val2 (q : Nat) (p : Int × Int → Bool) (xs : List (Int × Int)) (a : Option Addr) (cap : Nat) (w : World) (hin : MovesIn w a xs) (hl : xs.length ≤ 1000)
    (hp : ∀ k w', k < xs.length → Below w.heap.size w w' → Calls Try.prog 80 #[.agg #[.int .i64 (xs.getD k (0, 0)).1, .int .i64 (xs.getD k (0, 0)).2], .pointer (some ⟨q, 0, none⟩)] w' fun e w'' => e = .returned (.bool (p (xs.getD k (0, 0)))) ∧ Below w'.heap.size w' w'') :
    Calls Try.prog 84 #[.slice a xs.length cap, .func (.func 80) #[] #[.pointer (some ⟨q, 0, none⟩)]] w (AnyPost xs p w) := by
  have HI := Lib.hid hin; have HP := Lib.hid hp
  clear hin hp
  go_enter Try.func84, Try.ntmps84
  go_wp2_with fail
  go_loopw [8] (fun i wr => ∃ k : Nat, k ≤ xs.length ∧ i = .int .i64 k ∧ NoneYet xs p k ∧ Below w.heap.size w wr) (fun i _ => xs.length - (intOf i).toNat)
  case atStart => exact ⟨0, Nat.zero_le _, rfl, NoneYet.zero, Below.refl _ _⟩
  case round =>
    obtain ⟨k, hk, rfl, hny, hb⟩ := hrel
    by_cases hlt : k < xs.length
    · have HB := Lib.hid hb; have HN := Lib.hid hny; clear hny
      obtain ⟨b, off, rfl, hc1, hc2⟩ := HI.out.below hb k hlt
      have HC := Lib.hid (HP.out k wr hlt hb)
      clear hb
      generalize hx : xs.getD k (0, 0) = x at *
      have HX := Lib.hid hx; clear hx
      obtain ⟨x1, x2⟩ := x
      have hc1 : wr.cell? ⟨b, off + k * 2, none⟩ = some (.int .i64 x1) := hc1
      have hc2 : wr.cell? ⟨b, off + k * 2 + 1, none⟩ = some (.int .i64 x2) := hc2
      have HC : Hid (Calls Try.prog 80 #[.agg #[.int .i64 x1, .int .i64 x2], .pointer (some ⟨q, 0, none⟩)] wr fun e w'' => e = .returned (.bool (p (x1, x2))) ∧ Below wr.heap.size wr w'') := HC
      cases hpx : p (x1, x2)
      · rw [hpx] at HC
        have HPX := Lib.hid hpx; clear hpx
        go_wp2_with (first | (go_at_call 80; refine HC.out.mono ?_; rintro e w2 ⟨rfl, hb2⟩))
        go_roundw
        case rel => exact ⟨k + 1, by omega, by go_num, HN.out.next (d := (0, 0)) hlt (by rw [HX.out]; exact HPX.out), HB.out.trans (hb2.mono HB.out.size)⟩
        case measure => simp [intOf]; omega
      · rw [hpx] at HC
        have HPX := Lib.hid hpx; clear hpx
        go_wp2_with (first | (go_at_call 80; refine HC.out.mono ?_; rintro e w2 ⟨rfl, hb2⟩))
        go_ret
        exact ⟨k, rfl, by rw [any_here (d := (0, 0)) hlt (by rw [HX.out]; exact HPX.out)]; simp, HB.out.trans (hb2.mono HB.out.size)⟩
    · obtain rfl : k = xs.length := by omega
      go_wp2_with fail
      go_ret
      exact ⟨-1, rfl, by rw [hny.fin]; rfl, hb⟩
theorem con_val2 (q : Nat) (p : Int × Int → Bool) (xs : List (Int × Int)) (a : Option Addr) (cap : Nat) (w : World) (hin : MovesIn w a xs) (hl : xs.length ≤ 1000)
    (hp : ∀ k w', k < xs.length → Below w.heap.size w w' → Calls Try.prog 80 #[.agg #[.int .i64 (xs.getD k (0, 0)).1, .int .i64 (xs.getD k (0, 0)).2], .pointer (some ⟨q, 0, none⟩)] w' fun e w'' => e = .returned (.bool (p (xs.getD k (0, 0)))) ∧ Below w'.heap.size w' w'') :
    Calls Try.prog 43 #[.slice a xs.length cap, .func (.func 80) #[] #[.pointer (some ⟨q, 0, none⟩)]] w fun e w' => e = .returned (.bool (xs.any p)) ∧ Below w.heap.size w w' := by
  have HC := Lib.hid (idx_val2 q p xs a cap w hin hl hp)
  clear hin hp
  go_enter Try.func43, Try.ntmps43
  go_wp2_with (first | (go_at_call 84; refine HC.out.mono ?_; rintro e w2 ⟨r, rfl, hr, hb2⟩))
  go_wp2_with fail
  go_ret
  exact ⟨rfl, hb2⟩

set_option maxHeartbeats 1000000 in
theorem idx_row1 (q : Nat) (p : Int × Int → Bool) (xs : List (Int × Int)) (a : Option Addr) (cap : Nat) (w : World) (hin : MovesIn w a xs) (hl : xs.length ≤ 1000)
    (hp : ∀ k w', k < xs.length → Below w.heap.size w w' → Calls Try.prog 44 #[.agg #[.int .i64 (xs.getD k (0, 0)).1, .int .i64 (xs.getD k (0, 0)).2], .pointer (some ⟨q, 0, none⟩)] w' fun e w'' => e = .returned (.bool (p (xs.getD k (0, 0)))) ∧ Below w'.heap.size w' w'') :
    Calls Try.prog 84 #[.slice a xs.length cap, .func (.func 44) #[] #[.pointer (some ⟨q, 0, none⟩)]] w (AnyPost xs p w) := by
  have HI := Lib.hid hin; have HP := Lib.hid hp
  clear hin hp
  go_enter Try.func84, Try.ntmps84
  go_wp2_with fail
  go_loopw [8] (fun i wr => ∃ k : Nat, k ≤ xs.length ∧ i = .int .i64 k ∧ NoneYet xs p k ∧ Below w.heap.size w wr) (fun i _ => xs.length - (intOf i).toNat)
  case atStart => exact ⟨0, Nat.zero_le _, rfl, NoneYet.zero, Below.refl _ _⟩
  case round =>
    obtain ⟨k, hk, rfl, hny, hb⟩ := hrel
    by_cases hlt : k < xs.length
    · have HB := Lib.hid hb; have HN := Lib.hid hny; clear hny
      obtain ⟨b, off, rfl, hc1, hc2⟩ := HI.out.below hb k hlt
      have HC := Lib.hid (HP.out k wr hlt hb)
      clear hb
      generalize hx : xs.getD k (0, 0) = x at *
      have HX := Lib.hid hx; clear hx
      obtain ⟨x1, x2⟩ := x
      have hc1 : wr.cell? ⟨b, off + k * 2, none⟩ = some (.int .i64 x1) := hc1
      have hc2 : wr.cell? ⟨b, off + k * 2 + 1, none⟩ = some (.int .i64 x2) := hc2
      have HC : Hid (Calls Try.prog 44 #[.agg #[.int .i64 x1, .int .i64 x2], .pointer (some ⟨q, 0, none⟩)] wr fun e w'' => e = .returned (.bool (p (x1, x2))) ∧ Below wr.heap.size wr w'') := HC
      cases hpx : p (x1, x2)
      · rw [hpx] at HC
        have HPX := Lib.hid hpx; clear hpx
        go_wp2_with (first | (go_at_call 44; refine HC.out.mono ?_; rintro e w2 ⟨rfl, hb2⟩))
        go_roundw
        case rel => exact ⟨k + 1, by omega, by go_num, HN.out.next (d := (0, 0)) hlt (by rw [HX.out]; exact HPX.out), HB.out.trans (hb2.mono HB.out.size)⟩
        case measure => simp [intOf]; omega
      · rw [hpx] at HC
        have HPX := Lib.hid hpx; clear hpx
        go_wp2_with (first | (go_at_call 44; refine HC.out.mono ?_; rintro e w2 ⟨rfl, hb2⟩))
        go_ret
        exact ⟨k, rfl, by rw [any_here (d := (0, 0)) hlt (by rw [HX.out]; exact HPX.out)]; simp, HB.out.trans (hb2.mono HB.out.size)⟩
    · obtain rfl : k = xs.length := by omega
      go_wp2_with fail
      go_ret
      exact ⟨-1, rfl, by rw [hny.fin]; rfl, hb⟩
theorem con_row1 (q : Nat) (p : Int × Int → Bool) (xs : List (Int × Int)) (a : Option Addr) (cap : Nat) (w : World) (hin : MovesIn w a xs) (hl : xs.length ≤ 1000)
    (hp : ∀ k w', k < xs.length → Below w.heap.size w w' → Calls Try.prog 44 #[.agg #[.int .i64 (xs.getD k (0, 0)).1, .int .i64 (xs.getD k (0, 0)).2], .pointer (some ⟨q, 0, none⟩)] w' fun e w'' => e = .returned (.bool (p (xs.getD k (0, 0)))) ∧ Below w'.heap.size w' w'') :
    Calls Try.prog 43 #[.slice a xs.length cap, .func (.func 44) #[] #[.pointer (some ⟨q, 0, none⟩)]] w fun e w' => e = .returned (.bool (xs.any p)) ∧ Below w.heap.size w w' := by
  have HC := Lib.hid (idx_row1 q p xs a cap w hin hl hp)
  clear hin hp
  go_enter Try.func43, Try.ntmps43
  go_wp2_with (first | (go_at_call 84; refine HC.out.mono ?_; rintro e w2 ⟨r, rfl, hr, hb2⟩))
  go_wp2_with fail
  go_ret
  exact ⟨rfl, hb2⟩

set_option maxHeartbeats 1000000 in
theorem Validate_any (l : List (Int × Int)) (a : Option Addr) (cap : Nat) (w : World) (hin : MovesIn w a l) (hcap : l.length ≤ cap) :
    Calls Try.prog 40 #[.slice a l.length cap] w fun e w' => e = .returned (.int .i64 (validM l)) ∧ Below w.heap.size w w' := by
  by_cases h8 : 8 < l.length
  · have hv : validM l = 3 := by unfold validM; rw [if_pos h8]
    have h8i : (8 : Int) < (l.length : Int) := by omega
    rw [hv]
    clear hin hv
    go_enter Try.func40, Try.ntmps40
    go_wp2_with fail
    go_ret
    exact ⟨rfl, Below.refl _ _⟩
  · have h8i : ¬ (8 : Int) < (l.length : Int) := by omega
    have HC := Lib.hid (con_val1 badB l a cap w hin (by omega) fun k w' _ _ => val1_any _ _ w')
    cases hbad : l.any badB
    · rw [hbad] at HC
      have hv : validM l = if dupB l then 7 else 0 := by unfold validM; rw [if_neg h8, hbad]; rfl
      have HI := Lib.hid hin
      have HY : Hid (∀ k, k < l.length → dupAt l k = true → dupB l = true) := Lib.hid fun k hk h => List.any_eq_true.2 ⟨k, by simpa using hk, h⟩
      have HNo : Hid ((∀ k, k < l.length → dupAt l k = false) → dupB l = false) := Lib.hid fun h => by
        unfold dupB
        rw [List.any_eq_false]
        intro k hk
        rw [h k (by simpa using hk)]
        simp
      have HCon : Hid (∀ (k : Nat) (w' : World) (q : Nat) (cap : Nat), k < l.length → Below w.heap.size w w' → w'.cell? ⟨q, 0, none⟩ = some (.int .i64 (l.getD k (0, 0)).1) → Calls Try.prog 43 #[.slice a k cap, .func (.func 80) #[] #[.pointer (some ⟨q, 0, none⟩)]] w' fun e w'' => e = .returned (.bool (dupAt l k)) ∧ Below w'.heap.size w' w'') := Lib.hid fun k w' q cap hk hb hq => by
        have := con_val2 q (fun x => x.1 == (l.getD k (0, 0)).1) (l.take k) a cap w' ((hin.below hb).take k) (by rw [List.length_take]; omega) fun j w'' _ hb2 => val2_any _ _ _ q w'' (keep hq hb2)
        rwa [List.length_take, Nat.min_eq_left (by omega)] at this
      rw [hv]
      clear hin hbad hv
      generalize dupB l = D at *
      go_enter Try.func40, Try.ntmps40
      go_wp2_with fail
      refine HC.out.mono ?_; rintro e w1 ⟨rfl, hb1⟩
      have HB1 := Lib.hid hb1
      clear hb1
      go_wp2_with fail
      go_loopw [12] (fun i wr => ∃ k : Nat, k ≤ l.length ∧ i = .int .i64 k ∧ (∀ j, j < k → dupAt l j = false) ∧ Below w.heap.size w wr) (fun i _ => l.length - (intOf i).toNat)
      case atStart => exact ⟨0, Nat.zero_le _, rfl, fun j hj => absurd hj (Nat.not_lt_zero _), HB1.out⟩
      case round =>
        obtain ⟨k, hk, rfl, hny, hb⟩ := hrel
        by_cases hlt : k < l.length
        · have hki : (k : Int) < (l.length : Int) := by omega
          have hkc : (k : Int) ≤ (cap : Int) := by omega
          have hkc2 : k ≤ cap := by omega
          obtain ⟨b, off, rfl, hc1, hc2⟩ := HI.out.below hb k hlt
          have HB := Lib.hid hb; have HNy := Lib.hid hny
          have HCk := Lib.hid (fun w' q cap => HCon.out k w' q cap hlt)
          have HYk := Lib.hid (HY.out k hlt)
          clear hb hny
          generalize l.getD k (0, 0) = m at *
          obtain ⟨x, y⟩ := m
          have hc1 : wr.cell? ⟨b, off + k * 2, none⟩ = some (.int .i64 x) := hc1
          have hc2 : wr.cell? ⟨b, off + k * 2 + 1, none⟩ = some (.int .i64 y) := hc2
          have HA0 : Hid ((wr.alloc (.cells #[.int .i64 x, .int .i64 y] 52)).cell? ⟨wr.heap.size, 0, none⟩ = some (.int .i64 x)) := Lib.hid (by simp [go_sem])
          have HBA : Hid (Below w.heap.size w (wr.alloc (.cells #[.int .i64 x, .int .i64 y] 52))) := Lib.hid (HB.out.alloc HB.out.size _)
          go_wp2_with fail
          refine (HCk.out _ _ _ HBA.out HA0.out).mono ?_; rintro e w2 ⟨rfl, hb2⟩
          have HB2 := Lib.hid (HBA.out.trans (hb2.mono HBA.out.size))
          clear hb2
          cases hd : dupAt l k
          · have HD := Lib.hid hd
            clear hd
            go_wp2_with fail
            go_roundw
            case rel => exact ⟨k + 1, by omega, by go_num, fun j hj => by
              by_cases c : j = k
              · subst c; exact HD.out
              · exact HNy.out j (by omega), HB2.out⟩
            case measure => simp [intOf]; omega
          · have hD := HYk.out hd
            subst hD
            clear hd
            go_wp2_with fail
            go_ret
            exact ⟨rfl, HB2.out⟩
        · obtain rfl : k = l.length := by omega
          have hD := HNo.out hny
          subst hD
          have HB := Lib.hid hb
          clear hny hb
          go_wp2_with fail
          go_ret
          exact ⟨rfl, HB.out⟩
    · rw [hbad] at HC
      have hv : validM l = 1 := by unfold validM; rw [if_neg h8, hbad]; rfl
      rw [hv]
      clear hin hbad hv
      go_enter Try.func40, Try.ntmps40
      go_wp2_with fail
      refine HC.out.mono ?_; rintro e w1 ⟨rfl, hb1⟩
      go_wp2_with fail
      go_ret
      exact ⟨rfl, hb1⟩
/-- How few moves a row has. -/
def fewR (l : List (Int × Int)) : Nat := if validM l = 0 then (rowL (toN l) 31).length else 0
theorem row_len31 {l : List (Nat × Nat)} (h : MOk l) (sp : Nat) : (rowL l sp).length = (rowL l 31).length ∧ (rowL l sp).length ≤ 62 := by
  obtain ⟨B, hn, hB, hlen⟩ := row_len h sp
  obtain ⟨B', hn', hB', hlen'⟩ := row_len h 31
  have : B.length = B'.length := nodup_len hn hn' fun j => by rw [hB, hB']
  have hk := keys_le31 (fromF l)
  refine ⟨by omega, ?_⟩
  have hb := sub_len B (keysL (fromF l)) hn fun t ht => by
    obtain ⟨k, h1, h2, h3⟩ := (hB t).1 ht
    have hf : ∃ y, fromF l t = some y := by
      cases hc : fromF l t with
      | some y => exact ⟨y, rfl⟩
      | none =>
        exfalso
        have e : ∀ d, itF (fromF l) t (1 + d) = none := fun d => by
          induction d with
          | zero => exact hc
          | succ d ih => show (itF (fromF l) t (1 + d)).bind (fromF l) = none; rw [ih]; rfl
        have := e (k - 1)
        rw [show 1 + (k - 1) = k by omega, h2] at this
        cases this
    obtain ⟨y, hy⟩ := hf
    exact (fromF_ok h).key hy
  omega
set_option maxHeartbeats 1000000 in
theorem Fewest_any (l : List (Int × Int)) (a : Option Addr) (cap : Nat) (w : World) (hin : MovesIn w a l) (hcap : l.length ≤ cap) :
    Calls Try.prog 19 #[.slice a l.length cap] w fun e w' => e = .returned (.tuple #[.int .i64 (fewR l : Nat), .int .i64 (validM l)]) ∧ Below w.heap.size w w' := by
  have HV := Lib.hid (Validate_any l a cap w hin hcap)
  by_cases hv : validM l = 0
  · have hf : fewR l = (rowL (toN l) 31).length := by unfold fewR; rw [if_pos hv]
    obtain ⟨hok, _⟩ := valid_moves hv
    have HR : Hid (∀ w', Below w.heap.size w w' → Calls Try.prog 41 #[.slice a l.length cap, .int .i64 31] w' fun e w'' => ∃ v, e = .returned v ∧ PairSl w'' v (rowL (toN l) 31) ∧ Below w'.heap.size w' w'') := Lib.hid fun w' hb => by
      have := row_any (toN l) a cap 31 w' ((hin.below hb).pairs hv) hok (by omega)
      rwa [toN_len] at this
    rw [hf, hv]; rw [hv] at HV
    clear hin hv hf hok
    generalize rowL (toN l) 31 = R at *
    go_enter Try.func19, Try.ntmps19
    go_wp2_with fail
    refine HV.out.mono ?_; rintro e w1 ⟨rfl, hb1⟩
    go_wp2_with fail
    refine (HR.out _ hb1).mono ?_; rintro e w2 ⟨v2, rfl, ⟨va, vc, rfl, _⟩, hb2⟩
    have HB2 := Lib.hid (hb1.trans (hb2.mono hb1.size)); clear hb1 hb2
    go_wp2_with fail
    go_ret2
    exact ⟨rfl, HB2.out⟩
  · have hf : fewR l = 0 := by unfold fewR; rw [if_neg hv]
    rw [hf]
    generalize validM l = E at *
    have hE : (E == 0) = false := by rw [beq_eq_false_iff_ne]; exact hv
    clear hin hv hf
    go_enter Try.func19, Try.ntmps19
    go_wp2_with fail
    refine HV.out.mono ?_; rintro e w1 ⟨rfl, hb1⟩
    go_wp2_with fail
    go_ret2
    exact ⟨rfl, hb1⟩
/-- The errors of moves and a spare register. -/
def rowedE (l : List (Int × Int)) (sp : Int) : Int := if validM l = 0 then (if regB sp then (if l.any (fun m => m.1 == sp || m.2 == sp) then 5 else 0) else 1) else validM l
def rowR (l : List (Int × Int)) (sp : Int) : List (Nat × Nat) := if rowedE l sp = 0 then rowL (toN l) sp.toNat else []
theorem rowed_parts {l : List (Int × Int)} {sp : Int} (h : rowedE l sp = 0) : validM l = 0 ∧ (0 ≤ sp ∧ sp ≤ 30) ∧ ∀ m ∈ l, m.1 ≠ sp ∧ m.2 ≠ sp := by
  unfold rowedE at h
  by_cases hv : validM l = 0
  · rw [if_pos hv] at h
    cases hr : regB sp
    · rw [hr] at h; simp at h
    · rw [hr, if_pos rfl] at h
      cases ha : l.any (fun m => m.1 == sp || m.2 == sp)
      · refine ⟨hv, ?_, fun m hm => ?_⟩
        · unfold regB at hr
          rw [Bool.and_eq_true, decide_eq_true_iff, decide_eq_true_iff] at hr
          exact hr
        · rw [List.any_eq_false] at ha
          have := ha m hm
          rw [Bool.or_eq_true, beq_iff_eq, beq_iff_eq, not_or] at this
          exact this
      · rw [ha] at h; simp at h
  · rw [if_neg hv] at h; exact absurd h hv
set_option maxHeartbeats 1000000 in
theorem Row_any (l : List (Int × Int)) (a : Option Addr) (cap : Nat) (sp : Int) (w : World) (hin : MovesIn w a l) (hcap : l.length ≤ cap) :
    Calls Try.prog 20 #[.slice a l.length cap, .int .i64 sp] w fun e w' => ∃ v, e = .returned (.tuple #[v, .int .i64 (rowedE l sp)]) ∧ PairSl w' v (rowR l sp) ∧ Below w.heap.size w w' := by
  have hbl : Below w.heap.size w (w.alloc (.cells #[.int .i64 sp] 3)) := (Below.refl _ _).alloc (Nat.le_refl _) _
  have hc0 : (w.alloc (.cells #[.int .i64 sp] 3)).cell? ⟨w.heap.size, 0, none⟩ = some (.int .i64 sp) := by simp [go_sem]
  have HV := Lib.hid (Validate_any l a cap _ (hin.below hbl) hcap)
  have HC0 := Lib.hid hc0; have HBl := Lib.hid hbl
  have hqa : w.heap.size < (w.alloc (.cells #[.int .i64 sp] 3)).heap.size := by simp
  clear hc0
  by_cases hv : validM l = 0
  · have hl8 : l.length ≤ 8 := by have := (valid_moves hv).1.len; rwa [toN_len] at this
    have HReg := Lib.hid (fun w' => isReg_any sp w')
    have HCon : Hid (∀ (w' : World), Below w.heap.size w w' → w'.cell? ⟨w.heap.size, 0, none⟩ = some (.int .i64 sp) → Calls Try.prog 43 #[.slice a l.length cap, .func (.func 44) #[] #[.pointer (some ⟨w.heap.size, 0, none⟩)]] w' fun e w'' => e = .returned (.bool (l.any fun m => m.1 == sp || m.2 == sp)) ∧ Below w'.heap.size w' w'') := Lib.hid fun w' hb hq =>
      con_row1 w.heap.size (fun m => m.1 == sp || m.2 == sp) l a cap w' (hin.below hb) (by omega) fun j w'' _ hb2 => row1_any _ _ _ _ w'' (keep hq hb2)
    have he : rowedE l sp = if regB sp then (if l.any (fun m => m.1 == sp || m.2 == sp) then 5 else 0) else 1 := by unfold rowedE; rw [if_pos hv]
    have hrow : rowR l sp = if rowedE l sp = 0 then rowL (toN l) sp.toNat else [] := rfl
    rw [hrow, he]
    rw [hv] at HV
    cases hr : regB sp
    · rw [hr] at HReg
      clear hin hv he hrow hr hbl
      go_enter Try.func20, Try.ntmps20
      go_wp2_with fail
      refine HV.out.mono ?_; rintro e w1 ⟨rfl, hb1⟩
      have hc1 := keep HC0.out hb1
      have HB1 := Lib.hid (HBl.out.trans (hb1.mono HBl.out.size))
      clear hb1
      go_wp2_with fail
      refine (HReg.out _).mono ?_; rintro e w2 ⟨rfl, rfl⟩
      go_wp2_with fail
      go_ret2
      exact ⟨_, rfl, PairSl.nil _, HB1.out⟩
    · rw [hr] at HReg
      have hsp : 0 ≤ sp ∧ sp ≤ 30 := by
        unfold regB at hr
        rwa [Bool.and_eq_true, decide_eq_true_iff, decide_eq_true_iff] at hr
      obtain ⟨s, rfl⟩ := Int.eq_ofNat_of_zero_le hsp.1
      have HR : Hid (∀ w', Below w.heap.size w w' → Calls Try.prog 41 #[.slice a l.length cap, .int .i64 (s : Nat)] w' fun e w'' => ∃ v, e = .returned v ∧ PairSl w'' v (rowL (toN l) s) ∧ Below w'.heap.size w' w'') := Lib.hid fun w' hb => by
        have := row_any (toN l) a cap s w' ((hin.below hb).pairs hv) (valid_moves hv).1 (by omega)
        rwa [toN_len] at this
      rw [Int.toNat_natCast]
      clear hin hv he hrow hr hbl
      cases ha : l.any (fun m => m.1 == (s : Int) || m.2 == (s : Int))
      · rw [ha] at HCon
        clear ha
        generalize rowL (toN l) s = R at *
        go_enter Try.func20, Try.ntmps20
        go_wp2_with fail
        refine HV.out.mono ?_; rintro e w1 ⟨rfl, hb1⟩
        have hc1 := keep HC0.out hb1
        have HB1 := Lib.hid (HBl.out.trans (hb1.mono HBl.out.size))
        clear hb1
        go_wp2_with fail
        refine (HReg.out _).mono ?_; rintro e w2 ⟨rfl, rfl⟩
        go_wp2_with fail
        refine (HCon.out _ HB1.out hc1).mono ?_; rintro e w3 ⟨rfl, hb3⟩
        have hc3 := keep hc1 hb3
        have HB3 := Lib.hid (HB1.out.trans (hb3.mono HB1.out.size))
        clear hb3
        go_wp2_with fail
        refine (HR.out _ HB3.out).mono ?_; rintro e w4 ⟨v4, rfl, ⟨va, vc, rfl, hp4⟩, hb4⟩
        have HP4 := Lib.hid hp4
        clear hp4
        go_wp2_with fail
        go_ret2
        exact ⟨_, rfl, ⟨va, vc, rfl, HP4.out⟩, HB3.out.trans (hb4.mono HB3.out.size)⟩
      · rw [ha] at HCon
        clear ha
        go_enter Try.func20, Try.ntmps20
        go_wp2_with fail
        refine HV.out.mono ?_; rintro e w1 ⟨rfl, hb1⟩
        have hc1 := keep HC0.out hb1
        have HB1 := Lib.hid (HBl.out.trans (hb1.mono HBl.out.size))
        clear hb1
        go_wp2_with fail
        refine (HReg.out _).mono ?_; rintro e w2 ⟨rfl, rfl⟩
        go_wp2_with fail
        refine (HCon.out _ HB1.out hc1).mono ?_; rintro e w3 ⟨rfl, hb3⟩
        go_wp2_with fail
        go_ret2
        exact ⟨_, rfl, PairSl.nil _, HB1.out.trans (hb3.mono HB1.out.size)⟩
  · have he : rowedE l sp = validM l := by unfold rowedE; rw [if_neg hv]
    have hrow : rowR l sp = [] := by unfold rowR; rw [he, if_neg hv]
    rw [hrow, he]
    generalize validM l = E at *
    have hE : (E == 0) = false := by rw [beq_eq_false_iff_ne]; exact hv
    clear hin hv he hrow hbl
    go_enter Try.func20, Try.ntmps20
    go_wp2_with fail
    refine HV.out.mono ?_; rintro e w1 ⟨rfl, hb1⟩
    have HB1 := Lib.hid (HBl.out.trans (hb1.mono HBl.out.size))
    clear hb1
    go_wp2_with fail
    go_ret2
    exact ⟨_, rfl, PairSl.nil _, HB1.out⟩
end Go.Proofs.Ytjfpaelmcepidaa
