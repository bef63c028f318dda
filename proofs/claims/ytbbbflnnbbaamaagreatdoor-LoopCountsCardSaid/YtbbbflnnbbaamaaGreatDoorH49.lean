/- Packed of several texts. -/
import Derived.Test.YtbbbflnnbbaamaaGreatDoorProg
import Derived.Test.YtbbbflnnbbaamaaGreatDoorH48
import Derived.WalkKit
import Derived.WalkSpells
import Derived.WalkLawsBesides
import Derived.BigQuiet
import Derived.Deep.QuietTactic
import Derived.Lib.Hide
import Derived.Lib.TrailingZeros
namespace Go.Proofs.YtbbbflnnbbaamaaGreatDoor
open Go.RowKit

theorem ret_bool {a b : Bool} (h : a = b) : Ending.returned (.bool a) = .returned (.bool b) := by rw [h]
theorem ret_int {k : IntKind} {a b : Int} (h : a = b) : Ending.returned (.int k a) = .returned (.int k b) := by rw [h]
def isW (n : Int) : Bool := decide (1 ≤ n) && decide (n ≤ 32)
theorem isW_iff {n : Int} : isW n = true ↔ 1 ≤ n ∧ n ≤ 32 := by simp [isW]
theorem isW_not {n : Int} : isW n = false ↔ n < 1 ∨ 32 < n := by simp [isW]; omega
def mx (n : Int) : Int := 2 ^ n.toNat - 1
theorem pow_bd (n : Int) (h2 : n ≤ 32) : 1 ≤ (2 : Int) ^ n.toNat ∧ (2 : Int) ^ n.toNat ≤ 4294967296 := by
 have h : n.toNat ≤ 32 := by omega
 have h1 : 2 ^ n.toNat ≤ 2 ^ 32 := Nat.pow_le_pow_right (by decide) h
 have h0 : 0 < 2 ^ n.toNat := Nat.pow_pos (by decide)
 have e : ((2 ^ n.toNat : Nat) : Int) = (2 : Int) ^ n.toNat := by simp
 omega
theorem mx_bd (n : Int) (h2 : n ≤ 32) : 0 ≤ mx n ∧ mx n ≤ 4294967295 := by
 have := pow_bd n h2; unfold mx; omega

theorem isWidth_any (n : Int) (w : World) :
  Calls Tryz.prog 60 #[.int .i64 n] w fun e w' => e = .returned (.bool (isW n)) ∧ w = w' := by
 unfold isW
 go_enter Tryz.func60, Tryz.ntmps60
 go_wp2
 ·go_ret; exact ⟨by simp [*], rfl⟩
 ·go_ret; exact ⟨by simp [*]; omega, rfl⟩
theorem wrap_u64 (n : Int) (h0 : 0 ≤ n) (h1 : n ≤ 9007199254740992) : IntKind.u64.wrap n = n := by
 rw [IntKind.wrap_u64]; omega
theorem mask_any (n : Int) (w : World) (h1 : 1 ≤ n) (h2 : n ≤ 32) :
  Calls Tryz.prog 61 #[.int .i64 n] w fun e w' => e = .returned (.int .u32 (mx n)) ∧ w = w' := by
 have e : (IntKind.u64.wrap (IntKind.u64.wrap (2 ^ n.toNat) - 1) % 4294967296) = mx n := by
  have := pow_bd n h2
  rw [wrap_u64 (2 ^ n.toNat) (by omega) (by omega), wrap_u64 _ (by omega) (by omega)]; unfold mx; omega
 have E := Lib.hid e; clear e
 go_enter Tryz.func61, Tryz.ntmps61
 go_wp2
 go_ret
 exact ⟨by rw [← E.out]; rfl, rfl⟩

theorem Mask_ok (n : Int) (w : World) (h : isW n = true) :
  Calls Tryz.prog 34 #[.int .i64 n] w fun e w' => e = .returned (.tuple #[.int .u32 (mx n), .int .i64 0]) ∧ w = w' := by
 have h1 := (isW_iff.1 h).1; have h2 := (isW_iff.1 h).2
 go_enter Tryz.func34, Tryz.ntmps34
 go_wp2_with (first | (go_at_call 60; refine (isWidth_any _ _).mono ?_; rintro e w' ⟨rfl, rfl⟩) | (go_at_call 61; refine (mask_any _ _ (by omega) (by omega)).mono ?_; rintro e w' ⟨rfl, rfl⟩))
 go_ret2
 exact ⟨rfl, rfl⟩
theorem Mask_bad (n : Int) (w : World) (h : isW n = false) :
  Calls Tryz.prog 34 #[.int .i64 n] w fun e w' => e = .returned (.tuple #[.int .u32 0, .int .i64 1]) ∧ w = w' := by
 go_enter Tryz.func34, Tryz.ntmps34
 go_wp2_with (first | (go_at_call 60; refine (isWidth_any _ _).mono ?_; rintro e w' ⟨rfl, rfl⟩))
 go_ret2
 exact ⟨rfl, rfl⟩

def allLe (m : Int) : List Int → Bool
 | [] => true
 | x :: l => decide (x ≤ m) && allLe m l
theorem allLe_iff {m : Int} {l : List Int} : allLe m l = true ↔ ∀ k, k < l.length → l.getD k 0 ≤ m := by
 induction l with
 | nil => simp [allLe]
 | cons x l ih =>
  simp only [allLe, Bool.and_eq_true, decide_eq_true_eq, ih]
  constructor
  ·rintro ⟨a, b⟩ k hk
   cases k with
   | zero => simpa using a
   | succ k => simpa using b k (by simpa using hk)
  ·intro h
   exact ⟨by simpa using h 0 (by simp), fun k hk => by simpa using h (k + 1) (by simpa using hk)⟩

def Reads (w : World) (b off : Nat) (kd : IntKind) (l : List Int) : Prop := ∀ k, k < l.length → w.cell? ⟨b, off + k, none⟩ = some (.int kd (l.getD k 0))

def UptoLe (m : Int) (l : List Int) (k : Nat) : Prop := ∀ j, j < k → l.getD j 0 ≤ m
theorem UptoLe.zero {m : Int} {l : List Int} : UptoLe m l 0 := fun _ h => absurd h (Nat.not_lt_zero _)
theorem UptoLe.succ {m : Int} {l : List Int} {k : Nat} (h : UptoLe m l k) (hk : l.getD k 0 ≤ m) : UptoLe m l (k + 1) := fun j hj => by
 rcases Nat.lt_or_ge j k with g | g
 ·exact h j g
 ·obtain rfl : j = k := by omega
  exact hk

set_option maxHeartbeats 400000 in
theorem fits_any (n : Int) (b len : Nat) (l : List Int) (w : World) (hl : l.length = len) (hm : len ≤ 1000) (hr : Reads w b 0 .u32 l) :
  Calls Tryz.prog 62 #[.int .i64 n, .slice (some ⟨b, 0, none⟩) len len] w fun e w' => e = .returned (.bool (isW n && allLe (mx n) l)) ∧ w = w' := by
 by_cases h : isW n = true
 ·have h1 := (isW_iff.1 h).1; have h2 := (isW_iff.1 h).2
  have HL := Lib.hid hl; clear hl
  have HR := Lib.hid hr; clear hr
  have hfin : (∀ k, k < len → l.getD k 0 ≤ mx n) → (isW n && allLe (mx n) l) = true := by
   intro g; rw [h, Bool.true_and]; exact allLe_iff.2 (by rw [HL.out]; exact g)
  have hbad : ∀ k, k < len → ¬ l.getD k 0 ≤ mx n → (isW n && allLe (mx n) l) = false := by
   intro k hk g; rw [h, Bool.true_and, Bool.eq_false_iff]; intro c; exact g (allLe_iff.1 c k (by rw [HL.out]; exact hk))
  have HF := Lib.hid hfin; clear hfin
  have HB := Lib.hid hbad; clear hbad
  generalize (isW n && allLe (mx n) l) = B at *
  go_enter Tryz.func62, Tryz.ntmps62
  go_wp2_with (first | (go_at_call 60; refine (isWidth_any _ _).mono ?_; rintro e w' ⟨rfl, rfl⟩))
  go_loop [12] (fun i => ∃ k : Nat, k ≤ len ∧ i = .int .i64 k ∧ UptoLe (mx n) l k) (fun i => len - (intOf i).toNat)
  case atStart => exact ⟨0, Nat.zero_le _, rfl, UptoLe.zero⟩
  case round =>
   obtain ⟨k, hk, rfl, hu⟩ := hrel
   by_cases hlt : k < len
   ·have hc : w.cell? ⟨b, 0 + k, none⟩ = some (.int .u32 (l.getD k 0)) := HR.out k (by rw [HL.out]; exact hlt)
    rw [Nat.zero_add] at hc
    generalize hg : l.getD k 0 = x at *
    have HG := Lib.hid hg; clear hg
    by_cases hx : x ≤ mx n
    ·go_wp2_with (first | (go_at_call 61; refine (mask_any _ _ (by omega) (by omega)).mono ?_; rintro e w' ⟨rfl, rfl⟩))
     go_round
     case rel => exact ⟨k + 1, by omega, by go_num, hu.succ (by rw [HG.out]; exact hx)⟩
     case measure => simp [intOf]; omega
    ·go_wp2_with (first | (go_at_call 61; refine (mask_any _ _ (by omega) (by omega)).mono ?_; rintro e w' ⟨rfl, rfl⟩))
     go_ret
     exact ⟨ret_bool (HB.out k hlt (by rw [HG.out]; exact hx)).symm, rfl⟩
   ·have e : k = len := by omega
    subst e
    go_wp2
    go_ret
    exact ⟨ret_bool (HF.out hu).symm, rfl⟩
 ·have h : isW n = false := by simpa using h
  rw [h, Bool.false_and]
  go_enter Tryz.func62, Tryz.ntmps62
  go_wp2_with (first | (go_at_call 60; refine (isWidth_any _ _).mono ?_; rintro e w' ⟨rfl, rfl⟩))
  go_ret
  exact ⟨rfl, rfl⟩

def cB (n c : Int) (l : List Int) : Bool := isW n && (decide (0 ≤ c) && decide (c ≤ 4294967296)) && allLe (mx n) l
theorem cB_iff {n c : Int} {l : List Int} : cB n c l = true ↔ (1 ≤ n ∧ n ≤ 32) ∧ (0 ≤ c ∧ c ≤ 4294967296) ∧ ∀ k, k < l.length → l.getD k 0 ≤ mx n := by
 unfold cB; rw [Bool.and_eq_true, Bool.and_eq_true, Bool.and_eq_true, isW_iff, allLe_iff, decide_eq_true_eq, decide_eq_true_eq, and_assoc]
def eI (b : Bool) : Int := if b then 0 else 1
theorem eI_t {b : Bool} (h : b = true) : eI b = 0 := by rw [h]; rfl
theorem eI_f {b : Bool} (h : b = false) : eI b = 1 := by rw [h]; rfl

set_option maxHeartbeats 400000 in
theorem counted_any (n c : Int) (b len : Nat) (l : List Int) (w : World) (hl : l.length = len) (hm : len ≤ 1000) (hr : Reads w b 0 .u32 l) :
  Calls Tryz.prog 25 #[.int .i64 n, .int .i64 c, .slice (some ⟨b, 0, none⟩) len len] w fun e w' => e = .returned (.int .i64 (eI (cB n c l))) ∧ w = w' := by
 by_cases h : isW n = true
 ·have h1 := (isW_iff.1 h).1; have h2 := (isW_iff.1 h).2
  by_cases hc0 : c < 0
  ·have hf : eI (cB n c l) = 1 := eI_f (by rw [Bool.eq_false_iff]; intro g; have := (cB_iff.1 g).2.1; omega)
   rw [hf]; clear hf
   go_enter Tryz.func25, Tryz.ntmps25
   go_wp2_with (first | (go_at_call 34; refine (Mask_ok _ _ h).mono ?_; rintro e w' ⟨rfl, rfl⟩))
   go_ret
   exact ⟨rfl, rfl⟩
  by_cases hc1 : 4294967296 < c
  ·have hf : eI (cB n c l) = 1 := eI_f (by rw [Bool.eq_false_iff]; intro g; have := (cB_iff.1 g).2.1; omega)
   rw [hf]; clear hf
   go_enter Tryz.func25, Tryz.ntmps25
   go_wp2_with (first | (go_at_call 34; refine (Mask_ok _ _ h).mono ?_; rintro e w' ⟨rfl, rfl⟩))
   go_ret
   exact ⟨rfl, rfl⟩
  have HL := Lib.hid hl; clear hl
  have HR := Lib.hid hr; clear hr
  have hfin : (∀ k, k < len → l.getD k 0 ≤ mx n) → eI (cB n c l) = 0 := by
   intro g; exact eI_t (cB_iff.2 ⟨⟨h1, h2⟩, ⟨by omega, by omega⟩, by rw [HL.out]; exact g⟩)
  have hbad : ∀ k, k < len → ¬ l.getD k 0 ≤ mx n → eI (cB n c l) = 1 := by
   intro k hk g; exact eI_f (by rw [Bool.eq_false_iff]; intro d; exact g ((cB_iff.1 d).2.2 k (by rw [HL.out]; exact hk)))
  have HF := Lib.hid hfin; clear hfin
  have HB := Lib.hid hbad; clear hbad
  generalize eI (cB n c l) = B at *
  go_enter Tryz.func25, Tryz.ntmps25
  go_wp2_with (first | (go_at_call 34; refine (Mask_ok _ _ h).mono ?_; rintro e w' ⟨rfl, rfl⟩))
  go_loop [28] (fun i => ∃ k : Nat, k ≤ len ∧ i = .int .i64 k ∧ UptoLe (mx n) l k) (fun i => len - (intOf i).toNat)
  case atStart => exact ⟨0, Nat.zero_le _, rfl, UptoLe.zero⟩
  case round =>
   obtain ⟨k, hk, rfl, hu⟩ := hrel
   by_cases hlt : k < len
   ·have hc : w.cell? ⟨b, 0 + k, none⟩ = some (.int .u32 (l.getD k 0)) := HR.out k (by rw [HL.out]; exact hlt)
    rw [Nat.zero_add] at hc
    generalize hg : l.getD k 0 = x at *
    have HG := Lib.hid hg; clear hg
    by_cases hx : x ≤ mx n
    ·go_wp2
     go_round
     case rel => exact ⟨k + 1, by omega, by go_num, hu.succ (by rw [HG.out]; exact hx)⟩
     case measure => simp [intOf]; omega
    ·go_wp2
     go_ret
     exact ⟨ret_int (HB.out k hlt (by rw [HG.out]; exact hx)).symm, rfl⟩
   ·have e : k = len := by omega
    subst e
    go_wp2
    go_ret
    exact ⟨ret_int (HF.out hu).symm, rfl⟩
 ·have h : isW n = false := by simpa using h
  have hf : eI (cB n c l) = 1 := eI_f (by unfold cB; rw [h]; rfl)
  rw [hf]; clear hf
  go_enter Tryz.func25, Tryz.ntmps25
  go_wp2_with (first | (go_at_call 34; refine (Mask_bad _ _ h).mono ?_; rintro e w' ⟨rfl, rfl⟩))
  go_ret
  exact ⟨rfl, rfl⟩

theorem mx32 : mx 32 = 4294967295 := by unfold mx; rfl
theorem rIsWord_any (n x : Int) (w : World) (h1 : 1 ≤ n) (h2 : n ≤ 32) (hx : x ≤ 4294967295) :
  Calls Tryz.prog 33 #[.int .i64 n, .int .u32 x] w fun e w' => e = .returned (.bool (decide (x ≤ mx n))) ∧ w = w' := by
 by_cases h : n = 32
 ·subst h
  have e : decide (x ≤ mx 32) = true := by rw [mx32]; simpa using hx
  rw [e]; clear e
  go_enter Tryz.func33, Tryz.ntmps33
  go_wp2
  go_ret
  exact ⟨rfl, rfl⟩
 ·have hp : (2 : Int) ^ n.toNat ≤ 2147483648 := by
   have h : n.toNat ≤ 31 := by omega
   have h1 : 2 ^ n.toNat ≤ 2 ^ 31 := Nat.pow_le_pow_right (by decide) h
   have e : ((2 ^ n.toNat : Nat) : Int) = (2 : Int) ^ n.toNat := by simp
   omega
  have e : decide (x < 2 ^ n.toNat % 4294967296) = decide (x ≤ mx n) := by
   have := pow_bd n h2
   rw [show (2 : Int) ^ n.toNat % 4294967296 = 2 ^ n.toNat by omega]
   unfold mx; rw [decide_eq_decide]; omega
  have E := Lib.hid e; clear e hp
  have hn : (n == 32) = false := by simpa using h
  go_enter Tryz.func33, Tryz.ntmps33
  go_wp2
  go_ret
  exact ⟨ret_bool E.out, rfl⟩

def WordsU32 (l : List Int) : Prop := ∀ k, k < l.length → 0 ≤ l.getD k 0 ∧ l.getD k 0 ≤ 4294967295

set_option maxHeartbeats 400000 in
theorem worded_any (n c : Int) (b len : Nat) (l : List Int) (w : World) (hl : l.length = len) (hm : len ≤ 1000) (hr : Reads w b 0 .u32 l) (hu : WordsU32 l) :
  Calls Tryz.prog 18 #[.int .i64 n, .int .i64 c, .slice (some ⟨b, 0, none⟩) len len] w fun e w' => e = .returned (.int .i64 (eI (cB n c l))) ∧ w = w' := by
 by_cases h : isW n = true
 ·have h1 := (isW_iff.1 h).1; have h2 := (isW_iff.1 h).2
  by_cases hc0 : c < 0
  ·have hf : eI (cB n c l) = 1 := eI_f (by rw [Bool.eq_false_iff]; intro g; have := (cB_iff.1 g).2.1; omega)
   rw [hf]; clear hf
   go_enter Tryz.func18, Tryz.ntmps18
   go_wp2
   go_ret
   exact ⟨rfl, rfl⟩
  by_cases hc1 : 4294967296 < c
  ·have hf : eI (cB n c l) = 1 := eI_f (by rw [Bool.eq_false_iff]; intro g; have := (cB_iff.1 g).2.1; omega)
   rw [hf]; clear hf
   go_enter Tryz.func18, Tryz.ntmps18
   go_wp2
   go_ret
   exact ⟨rfl, rfl⟩
  have HL := Lib.hid hl; clear hl
  have HR := Lib.hid hr; clear hr
  have HU := Lib.hid hu; clear hu
  have hfin : (∀ k, k < len → l.getD k 0 ≤ mx n) → eI (cB n c l) = 0 := by
   intro g; exact eI_t (cB_iff.2 ⟨⟨h1, h2⟩, ⟨by omega, by omega⟩, by rw [HL.out]; exact g⟩)
  have hbad : ∀ k, k < len → ¬ l.getD k 0 ≤ mx n → eI (cB n c l) = 1 := by
   intro k hk g; exact eI_f (by rw [Bool.eq_false_iff]; intro d; exact g ((cB_iff.1 d).2.2 k (by rw [HL.out]; exact hk)))
  have HF := Lib.hid hfin; clear hfin
  have HB := Lib.hid hbad; clear hbad
  generalize eI (cB n c l) = B at *
  go_enter Tryz.func18, Tryz.ntmps18
  go_wp2
  go_loop [7] (fun i => ∃ k : Nat, k ≤ len ∧ i = .int .i64 k ∧ UptoLe (mx n) l k) (fun i => len - (intOf i).toNat)
  case atStart => exact ⟨0, Nat.zero_le _, rfl, UptoLe.zero⟩
  case round =>
   obtain ⟨k, hk, rfl, hu⟩ := hrel
   by_cases hlt : k < len
   ·have hc : w.cell? ⟨b, 0 + k, none⟩ = some (.int .u32 (l.getD k 0)) := HR.out k (by rw [HL.out]; exact hlt)
    have hcu := (HU.out k (by rw [HL.out]; exact hlt)).2
    rw [Nat.zero_add] at hc
    generalize hg : l.getD k 0 = x at *
    have HG := Lib.hid hg; clear hg
    by_cases hx : x ≤ mx n
    ·have hd : decide (x ≤ mx n) = true := decide_eq_true hx
     go_wp2_with (first | (go_at_call 33; refine (rIsWord_any _ _ _ h1 h2 hcu).mono ?_; rintro e w' ⟨rfl, rfl⟩))
     go_round
     case rel => exact ⟨k + 1, by omega, by go_num, hu.succ (by rw [HG.out]; exact hx)⟩
     case measure => simp [intOf]; omega
    ·have hd : decide (x ≤ mx n) = false := decide_eq_false hx
     go_wp2_with (first | (go_at_call 33; refine (rIsWord_any _ _ _ h1 h2 hcu).mono ?_; rintro e w' ⟨rfl, rfl⟩))
     go_ret
     exact ⟨ret_int (HB.out k hlt (by rw [HG.out]; exact hx)).symm, rfl⟩
   ·have e : k = len := by omega
    subst e
    go_wp2
    go_ret
    exact ⟨ret_int (HF.out hu).symm, rfl⟩
 ·have h : isW n = false := by simpa using h
  have hf : eI (cB n c l) = 1 := eI_f (by unfold cB; rw [h]; rfl)
  rw [hf]; clear hf
  rcases isW_not.1 h with g | g
  ·go_enter Tryz.func18, Tryz.ntmps18
   go_wp2
   go_ret
   exact ⟨rfl, rfl⟩
  ·have g2 : ¬ n < 1 := by omega
   go_enter Tryz.func18, Tryz.ntmps18
   go_wp2
   go_ret
   exact ⟨rfl, rfl⟩

theorem wwrap (n : Int) (h2 : n ≤ 32) : IntKind.u64.wrap (2 ^ n.toNat) = 2 ^ n.toNat := by
 have := pow_bd n h2; exact wrap_u64 _ (by omega) (by omega)
theorem reads1 (w : World) (x : Int) (T : TypeId) : Reads (w.alloc (.cells #[.int .u32 x] T)) w.heap.size 0 .u32 [x] := by
 intro k hk
 have hk : k < 1 := hk
 obtain rfl : k = 0 := by omega
 simp [go_sem]
theorem reads2 (w : World) (x y : Int) (T : TypeId) : Reads (w.alloc (.cells #[.int .u32 x, .int .u32 y] T)) w.heap.size 0 .u32 [x, y] := by
 intro k hk
 have hk : k < 2 := hk
 match k, hk with
 | 0, _ => simp [go_sem]
 | 1, _ => simp [go_sem]
theorem reads3 (w : World) (x y z : Int) (T : TypeId) : Reads (w.alloc (.cells #[.int .u32 x, .int .u32 y, .int .u32 z] T)) w.heap.size 0 .u32 [x, y, z] := by
 intro k hk
 have hk : k < 3 := hk
 match k, hk with
 | 0, _ => simp [go_sem]
 | 1, _ => simp [go_sem]
 | 2, _ => simp [go_sem]

def afterV (n s t c : Int) : Int := (s + c * t) % 2 ^ n.toNat
def totalV (n s t c : Int) : Int := (c * s + pairs c * t) % 2 ^ n.toNat
theorem and_mx (X n : Int) (h0 : 0 ≤ X) (h1 : X < 4294967296) (n1 : 0 ≤ n) (n2 : n ≤ 32) : bits .and .u32 X (mx n) = X % 2 ^ n.toNat := and_mask X n h0 h1 n1 n2

set_option maxHeartbeats 400000 in
theorem After_ok (n s t c : Int) (w : World) (h : cB n c [s, t] = true) :
  Calls Tryz.prog 19 #[.int .i64 n, .int .u32 s, .int .u32 t, .int .i64 c] w fun e w' => e = .returned (.tuple #[.int .u32 (afterV n s t c), .int .i64 0]) ∧ Below w.heap.size w w' := by
 have hi := cB_iff.1 h
 have hw := isW_iff.2 hi.1
 have he := eI_t h
 have h1 := hi.1.1; have h2 := hi.1.2; have h3 := hi.2.1.1; have h4 := hi.2.1.2
 clear hi h
 have hv : bits .and .u32 ((s + t * (c % 4294967296)) % 4294967296) (mx n) = afterV n s t c := by
  rw [and_mx _ _ (by omega) (by omega) (by omega) h2]
  exact (Cg.mod (pow_dvd32 n h2)).tr (Cg.rfl.add ((Cg.rfl.mul (Cg.mod (pow_dvd32 n h2))).tr (Cg.of (Int.mul_comm _ _))))
 have HV := Lib.hid hv; clear hv
 go_enter Tryz.func19, Tryz.ntmps19
 go_wp2_with (first | (go_at_call 25; refine (counted_any _ _ _ 2 [s, t] _ rfl (by omega) (reads2 _ _ _ _)).mono ?_; rintro e w' ⟨rfl, rfl⟩) | (go_at_call 34; refine (Mask_ok _ _ hw).mono ?_; rintro e w' ⟨rfl, rfl⟩))
 go_ret2
 exact ⟨by rw [← HV.out]; rfl, (Below.refl _ _).alloc (Nat.le_refl _) _⟩
end Go.Proofs.YtbbbflnnbbaamaaGreatDoor
