/- Packed of several texts. -/
import Derived.Test.YtbbbflnnbbaamaaGreatDoorH46
import Derived.Test.YtbbbflnnbbaamaaGreatDoorH10
namespace Go.Proofs.YtbbbflnnbbaamaaGreatDoor.PK
open Go.RowKit

variable {p : Nat} {n : Int} {s t b : Nat}
theorem f0_gN : FL.gN (gI (F0 p n s t b)) = [[1], [2, 3], [1], []] := rfl
theorem f0_no {j : Nat} (hj : 0 < j) : FL.rs (FL.gN (gI (F0 p n s t b))) 1 0 j = false := by
 rw [f0_gN, Bool.eq_false_iff]
 intro hc
 rw [FL.rs_iff] at hc
 have := hc (fun x => x = 0) (fun _ => rfl) fun u x hu hx hb => by
  subst hu
  have : x = 1 := by simpa [FL.succ] using hx
  subst this
  exact absurd rfl hb
 omega
theorem f0_no0 {j : Nat} : FL.rs (FL.gN (gI (F0 p n s t b))) 0 0 j = false := congrFun (FL.rs_none (g := FL.gN (gI (F0 p n s t b))) (but := 0) (s := 0) rfl) j
theorem thr_same {F : Fun} {v : Int} {k : Nat} {at' : Int} (hw : ∃ i : Nat, whI F v = ((k : Int), (i : Int)) ∧ (at' < 0 ∨ (i : Int) < at')) : thrB F v k at' = true := by
 obtain ⟨i, h1, h2⟩ := hw
 unfold thrB
 rw [h1]
 dsimp only
 rw [if_neg (by omega), if_pos rfl]
 rcases h2 with h | h
 ·rw [decide_eq_true h]; rfl
 ·rw [decide_eq_true h, Bool.or_true]
theorem thr_dom {F : Fun} {v : Int} {d k : Nat} {at' : Int} (hw : ∃ i : Nat, whI F v = ((d : Int), (i : Int))) (hne : d ≠ k) (hd : FL.domB (FL.gN (gI F)) d k = true) : thrB F v k at' = true := by
 obtain ⟨i, h1⟩ := hw
 unfold thrB
 rw [h1]
 dsimp only
 rw [if_neg (by omega), if_neg (by omega), Int.toNat_natCast]
 exact hd
theorem f0_dom0 {k : Nat} : FL.domB (FL.gN (gI (F0 p n s t b))) 0 k = true := by
 unfold FL.domB
 simp [f0_no0]
theorem f0_dom1 {k : Nat} (h : 0 < k) : FL.domB (FL.gN (gI (F0 p n s t b))) 1 k = true := by
 unfold FL.domB
 simp [f0_no h]
theorem f0_insOk : ∀ k i, k < (F0 p n s t b).bs.length → i < (atBk (F0 p n s t b).bs k).length → insOk (F0 p n s t b) k i := by
 refine ins10 ?_ ?_ ?_ ?_ ?_ ?_ ?_ ?_ ?_ ?_
 ·exact fun k hk => absurd hk (Nat.not_lt_zero _)
 ·exact fun k hk => absurd hk (Nat.not_lt_zero _)
 ·exact fun k hk => absurd hk (Nat.not_lt_zero _)
 ·exact fun k hk => absurd hk (Nat.not_lt_zero _)
 ·intro k hk
  match k, hk with
  | 0, _ => exact fun _ => thr_same (F := F0 p n s t b) (v := 0) (k := 0) (at' := -1) ⟨0, rfl, .inl (by decide)⟩
  | 1, _ => exact fun _ => thr_same (F := F0 p n s t b) (v := 7) (k := 2) (at' := -1) ⟨0, rfl, .inl (by decide)⟩
  | k + 2, h => exact absurd h (by show ¬ k + 2 < 2; omega)
 ·intro k hk
  match k, hk with
  | 0, _ => exact thr_same (F := F0 p n s t b) (v := 4) (k := 1) (at' := 1) ⟨0, rfl, .inr (by decide)⟩
  | 1, _ => exact thr_dom (F := F0 p n s t b) (v := 2) (d := 0) (k := 1) ⟨2, rfl⟩ (by decide) f0_dom0
  | k + 2, h => exact absurd h (by show ¬ k + 2 < 2; omega)
 ·intro k hk
  match k, hk with
  | 0, _ => exact thr_same (F := F0 p n s t b) (v := 5) (k := 1) (at' := 2) ⟨1, rfl, .inr (by decide)⟩
  | k + 1, h => exact absurd h (by show ¬ k + 1 < 1; omega)
 ·intro k hk
  match k, hk with
  | 0, _ => exact thr_dom (F := F0 p n s t b) (v := 4) (d := 1) (k := 2) ⟨0, rfl⟩ (by decide) (f0_dom1 (by decide))
  | 1, _ => exact thr_dom (F := F0 p n s t b) (v := 1) (d := 0) (k := 2) ⟨1, rfl⟩ (by decide) f0_dom0
  | k + 2, h => exact absurd h (by show ¬ k + 2 < 2; omega)
 ·exact fun k hk => absurd hk (Nat.not_lt_zero _)
 ·intro k hk
  match k, hk with
  | 0, _ => exact thr_dom (F := F0 p n s t b) (v := 4) (d := 1) (k := 3) ⟨0, rfl⟩ (by decide) (f0_dom1 (by decide))
  | k + 1, h => exact absurd h (by show ¬ k + 1 < 1; omega)
theorem f0_err (h : W0 p n s t b) : errF (F0 p n s t b) = 0 :=
 errF_ok rfl (by
  have := h.n1; have := h.n2
  show ((([] : List Int).all isNum && decide (0 ≤ n ∧ n ≤ 32)) && ([] : List Int).all _) = true
  simp; omega) (f0_shp h) f0_laid (f0_typ h) (fun k hk _ i hi => f0_insOk k i hk hi)
theorem f0_in (h : W0 p n s t b) : inE (F0 p n s t b) [] [] = 0 :=
 inE_ok (f0_err h) ⟨rfl, rfl, fun _ hi => absurd hi (Nat.not_lt_zero _), fun _ hi => absurd hi (Nat.not_lt_zero _)⟩

/-! ### The blocks -/
theorem blk0_r (h : W0 p n s t b) : BlkR (F0 p n s t b) (List.replicate 10 0) 0 (-1) 0 3 (fun _ => 0) (fun i => ([(s : Int), t, b] : List Int).getD i 0) 1 where
 phi := ⟨Nat.zero_le _, fun i hi => absurd hi (Nat.not_lt_zero _), fun _ => of_decide_eq_true rfl, fun i hi => absurd hi (Nat.not_lt_zero _)⟩
 len := rfl
 mid := fun d hd => by
  have h1 : 0 < n := by have := h.n1; omega
  match d, hd with
  | 0, _ => exact ⟨rfl, h1, .inl ⟨rfl, rfl⟩⟩
  | 1, _ => exact ⟨rfl, h1, .inl ⟨rfl, rfl⟩⟩
  | 2, _ => exact ⟨rfl, h1, .inl ⟨rfl, rfl⟩⟩
 args := fun d hd => by
  match d, hd with
  | 0, _ => exact fun k hk => absurd hk (Nat.not_lt_zero _)
  | 1, _ => exact fun k hk => absurd hk (Nat.not_lt_zero _)
  | 2, _ => exact fun k hk => absurd hk (Nat.not_lt_zero _)
  | 3, _ => exact fun k hk => absurd hk (Nat.not_lt_zero _)
 last := ⟨rfl, .inl ⟨rfl, by show 0 < 1; decide, rfl⟩⟩
theorem blk1_r (h : W0 p n s t b) (u c0 z x : Int) (frm : Int) (hf : (frm = 0 ∧ x = s) ∨ (frm = 2 ∧ x = z)) (hx : 0 ≤ x ∧ x < 2 ^ n.toNat) :
  BlkR (F0 p n s t b) [s, t, b, 0, u, c0, 0, z, 0, 0] 1 frm 1 1 (fun _ => x) (fun _ => if cmpW p n x b then 1 else 0) (if cmpW p n x b then 2 else 3) where
 phi := by
  refine ⟨by show 1 ≤ 3; decide, fun i hi => ?_, fun _ => of_decide_eq_true rfl, fun i hi => ?_⟩
  ·obtain rfl : i = 0 := by omega
   rfl
  ·obtain rfl : i = 0 := by omega
   rcases hf with ⟨rfl, rfl⟩ | ⟨rfl, rfl⟩
   ·exact ⟨0, 0, by show 0 < 2; decide, rfl, fun j hj => absurd hj (Nat.not_lt_zero _), by show 0 < 2; decide, rfl, by show 0 < 10; decide, rfl⟩
   ·refine ⟨1, 7, by show 1 < 2; decide, rfl, fun j hj => ?_, by show 1 < 2; decide, rfl, by show 7 < 10; decide, rfl⟩
    obtain rfl : j = 0 := by omega
    show (0 : Int) ≠ 2
    decide
 len := rfl
 mid := fun d hd => by
  obtain rfl : d = 0 := by omega
  have hp := h.pow
  have h3 := h.b1
  have hc : ((2 ^ n.toNat : Nat) : Int) = (2 : Int) ^ n.toNat := by simp
  refine ⟨rfl, by show (0 : Int) < 1; decide, .inr (.inl ⟨rfl, x, (b : Int), n, rfl, rfl, h.p9, ?_, ⟨hx.1, by omega⟩, ⟨by omega, by omega⟩, by unfold mxI; omega, by unfold mxI; omega, rfl⟩)⟩
  unfold isNum
  exact decide_eq_true ⟨h.n1, h.n2⟩
 args := fun d hd k hk => by
  match d, hd with
  | 0, _ =>
   match k, hk with
   | 0, _ => exact ⟨by show (0 : Int) ≤ 4; decide, by show (4 : Int) < 10; decide⟩
   | 1, _ => exact ⟨by show (0 : Int) ≤ 2; decide, by show (2 : Int) < 10; decide⟩
   | k + 2, h => exact absurd h (by show ¬ k + 2 < 2; omega)
  | 1, _ =>
   match k, hk with
   | 0, _ => exact ⟨by show (0 : Int) ≤ 5; decide, by show (5 : Int) < 10; decide⟩
   | k + 1, h => exact absurd h (by show ¬ k + 1 < 1; omega)
 last := ⟨rfl, .inr (.inl ⟨rfl, rfl, cmpW p n x b, rfl, rfl⟩)⟩
theorem blk2_r (h : W0 p n s t b) (x c z : Int) (hx : 0 ≤ x ∧ x < 2 ^ n.toNat) :
  BlkR (F0 p n s t b) [s, t, b, 0, x, c, 0, z, 0, 0] 2 1 0 1 (fun _ => 0) (fun _ => (x + t) % 2 ^ n.toNat) 1 where
 phi := ⟨Nat.zero_le _, fun i hi => absurd hi (Nat.not_lt_zero _), fun _ => of_decide_eq_true rfl, fun i hi => absurd hi (Nat.not_lt_zero _)⟩
 len := rfl
 mid := fun d hd => by
  obtain rfl : d = 0 := by omega
  have hp := h.pow
  have h3 := h.t1
  have hc : ((2 ^ n.toNat : Nat) : Int) = (2 : Int) ^ n.toNat := by simp
  refine ⟨rfl, by show 0 < n; have := h.n1; omega, .inr (.inr ⟨rfl, rfl, x, (t : Int), rfl, ?_, ⟨hx.1, by omega⟩, ⟨by omega, by omega⟩, ?_, ?_, rfl⟩)⟩
  ·unfold isNum
   exact decide_eq_true ⟨h.n1, h.n2⟩
  ·show x ≤ mxI n
   unfold mxI; omega
  ·show (t : Int) ≤ mxI n
   unfold mxI; omega
 args := fun d hd k hk => by
  match d, hd with
  | 0, _ =>
   match k, hk with
   | 0, _ => exact ⟨by show (0 : Int) ≤ 4; decide, by show (4 : Int) < 10; decide⟩
   | 1, _ => exact ⟨by show (0 : Int) ≤ 1; decide, by show (1 : Int) < 10; decide⟩
   | k + 2, h => exact absurd h (by show ¬ k + 2 < 2; omega)
  | 1, _ => exact absurd hk (Nat.not_lt_zero _)
 last := ⟨rfl, .inl ⟨rfl, by show 0 < 1; decide, rfl⟩⟩
theorem blk3_r (x c z : Int) :
  BlkR (F0 p n s t b) [s, t, b, 0, x, c, 0, z, 0, 0] 3 1 0 0 (fun _ => 0) (fun _ => 0) (-1) where
 phi := ⟨Nat.zero_le _, fun i hi => absurd hi (Nat.not_lt_zero _), fun _ => of_decide_eq_true rfl, fun i hi => absurd hi (Nat.not_lt_zero _)⟩
 len := rfl
 mid := fun d hd => absurd hd (Nat.not_lt_zero _)
 args := fun d hd k hk => by
  obtain rfl : d = 0 := by omega
  match k, hk with
  | 0, _ => exact ⟨by show (0 : Int) ≤ 4; decide, by show (4 : Int) < 10; decide⟩
  | k + 1, h => exact absurd h (by show ¬ k + 1 < 1; omega)
 last := ⟨rfl, .inr (.inr ⟨rfl, ⟨x, rfl⟩, rfl⟩)⟩
end Go.Proofs.YtbbbflnnbbaamaaGreatDoor.PK
namespace Go.Proofs.YtbbbflnnbbaamaaGreatDoor.PK
open Go.RowKit

variable {p : Nat} {n : Int} {s t b : Nat}
def xK (n : Int) (s t : Nat) : Nat → Int
 | 0 => s
 | k + 1 => (xK n s t k + t) % 2 ^ n.toNat
theorem xK_bd (h : W0 p n s t b) : ∀ k, 0 ≤ xK n s t k ∧ xK n s t k < 2 ^ n.toNat
 | 0 => by
  have h3 := h.s1
  have hc : ((2 ^ n.toNat : Nat) : Int) = (2 : Int) ^ n.toNat := by simp
  exact ⟨by show (0 : Int) ≤ s; omega, by show (s : Int) < _; omega⟩
 | k + 1 => by
  have hq : (0 : Int) < 2 ^ n.toNat := Int.pow_pos (by decide)
  exact ⟨Int.emod_nonneg _ (by omega), Int.emod_lt_of_pos _ hq⟩
def cK (p : Nat) (n : Int) (s t b k : Nat) : Int := if cmpW p n (xK n s t k) b then 1 else 0
def zK (n : Int) (s t : Nat) : Nat → Int
 | 0 => 0
 | k + 1 => xK n s t (k + 1)
def vK (p : Nat) (n : Int) (s t b k : Nat) : List Int := [s, t, b, 0, xK n s t k, cK p n s t b k, 0, zK n s t k, 0, 0]
def uK (p : Nat) (n : Int) (s t b k : Nat) : List Int := [s, t, b, 0, xK n s t k, cK p n s t b k, 0, xK n s t (k + 1), 0, 0]
def lP (p : Nat) (n : Int) (s t b K : Nat) : Nat → List Int
 | 0 => List.replicate 10 0
 | 1 => [s, t, b, 0, 0, 0, 0, 0, 0, 0]
 | i + 2 => if i % 2 = 0 then vK p n s t b (i / 2) else if i = 2 * K + 1 then vK p n s t b K else uK p n s t b (i / 2)
def bP (K : Nat) : Nat → Nat
 | 0 => 0
 | j + 1 => if j % 2 = 0 then 1 else if j = 2 * K + 1 then 3 else 2
def fP (K : Nat) : Nat → Int
 | 0 => -1
 | j + 1 => ((bP K j : Nat) : Int)
def lenB : Nat → Nat
 | 0 => 4
 | 1 => 3
 | 2 => 2
 | _ => 1
def sP (K : Nat) : Nat → Nat
 | 0 => 0
 | j + 1 => sP K j + lenB (bP K j)
theorem lenB_le (k : Nat) : lenB k ≤ 4 := by
 match k with
 | 0 => decide
 | 1 => decide
 | 2 => decide
 | k + 3 => show 1 ≤ 4; decide
theorem sP_le (K : Nat) : ∀ j, sP K j ≤ 4 * j
 | 0 => Nat.le_refl _
 | j + 1 => by
  have := sP_le K j
  have := lenB_le (bP K j)
  show sP K j + lenB (bP K j) ≤ _
  omega
theorem bP_odd (K k : Nat) : bP K (2 * k + 1) = 1 := by
 show (if 2 * k % 2 = 0 then 1 else _) = 1
 rw [if_pos (by omega)]
theorem bP_even {K k : Nat} (h : k < K) : bP K (2 * k + 2) = 2 := by
 show (if (2 * k + 1) % 2 = 0 then 1 else if 2 * k + 1 = 2 * K + 1 then 3 else 2) = 2
 rw [if_neg (by omega), if_neg (by omega)]
theorem bP_last (K : Nat) : bP K (2 * K + 2) = 3 := by
 show (if (2 * K + 1) % 2 = 0 then 1 else if 2 * K + 1 = 2 * K + 1 then 3 else 2) = 3
 rw [if_neg (by omega), if_pos rfl]
theorem bP_head (K j : Nat) : bP K j = 1 ↔ j % 2 = 1 := by
 match j with
 | 0 => exact ⟨fun h => absurd h (by show ¬ 0 = 1; decide), fun h => absurd h (by decide)⟩
 | j + 1 =>
  show (if j % 2 = 0 then 1 else if j = 2 * K + 1 then 3 else 2) = 1 ↔ _
  by_cases h : j % 2 = 0
  ·rw [if_pos h]; omega
  ·rw [if_neg h]
   split <;> omega
theorem lP_v {K k : Nat} : lP p n s t b K (2 * k + 2) = vK p n s t b k := by
 show (if 2 * k % 2 = 0 then vK p n s t b (2 * k / 2) else _) = _
 rw [if_pos (by omega), show 2 * k / 2 = k by omega]
theorem lP_u {K k : Nat} (h : k < K) : lP p n s t b K (2 * k + 3) = uK p n s t b k := by
 show (if (2 * k + 1) % 2 = 0 then _ else if 2 * k + 1 = 2 * K + 1 then vK p n s t b K else uK p n s t b ((2 * k + 1) / 2)) = _
 rw [if_neg (by omega), if_neg (by omega), show (2 * k + 1) / 2 = k by omega]
theorem lP_e {K : Nat} : lP p n s t b K (2 * K + 3) = vK p n s t b K := by
 show (if (2 * K + 1) % 2 = 0 then _ else if 2 * K + 1 = 2 * K + 1 then vK p n s t b K else _) = _
 rw [if_neg (by omega), if_pos rfl]
theorem path0 (h : W0 p n s t b) (K : Nat) (hK : K < 20) (hg : ∀ k, k < K → cmpW p n (xK n s t k) b = true) (he : cmpW p n (xK n s t K) b = false) :
  Path (F0 p n s t b) (2 * K + 3) (bP K) (fP K) (lP p n s t b K) (sP K) where
 m1 := by omega
 m2 := by omega
 b0 := rfl
 f0 := rfl
 l0 := rfl
 s0 := rfl
 sm := by have := sP_le K (2 * K + 3); omega
 step := fun i hi => by
  have hc : i = 0 ∨ (∃ k, i = 2 * k + 1) ∨ ∃ k, i = 2 * k + 2 := by
   rcases Nat.lt_or_ge 0 i with h0 | h0
   ·rcases Nat.mod_two_eq_zero_or_one i with h1 | h1
    ·exact .inr (.inr ⟨i / 2 - 1, by omega⟩)
    ·exact .inr (.inl ⟨i / 2, by omega⟩)
   ·exact .inl (by omega)
  rcases hc with rfl | ⟨k, rfl⟩ | ⟨k, rfl⟩
  ·exact ⟨0, 3, _, _, _, blk0_r h, rfl, rfl, by show 0 < 4; decide, by rw [if_neg (by omega)]; rfl, rfl⟩
  ·have hb : bP K (2 * k + 1) = 1 := bP_odd K k
   have hx := xK_bd h k
   have hnx : (if cmpW p n (xK n s t k) b then (2 : Int) else 3) = if 2 * k + 1 + 1 = 2 * K + 3 then -1 else ((bP K (2 * k + 1 + 1) : Nat) : Int) := by
    have e2 : (if 2 * k + 1 + 1 = 2 * K + 3 then (-1 : Int) else ((bP K (2 * k + 1 + 1) : Nat) : Int)) = ((bP K (2 * k + 1 + 1) : Nat) : Int) := if_neg (by omega)
    rw [e2]
    by_cases hkK : k = K
    ·subst hkK
     rw [he, show 2 * k + 1 + 1 = 2 * k + 2 from rfl, bP_last]; rfl
    ·rw [hg k (by omega), show 2 * k + 1 + 1 = 2 * k + 2 from rfl, bP_even (by omega)]; rfl
   have hs : sP K (2 * k + 1 + 1) = sP K (2 * k + 1) + 1 + 1 + 1 := by
    show sP K (2 * k + 1) + lenB (bP K (2 * k + 1)) = _
    rw [hb]; rfl
   have hf : fP K (2 * k + 1 + 1) = ((bP K (2 * k + 1) : Nat) : Int) := rfl
   rw [show 2 * k + 1 + 1 = 2 * k + 2 from rfl] at hs ⊢
   rw [lP_v, hb]
   match k, hi, hb, hx, hnx, hs with
   | 0, hi, hb, hx, hnx, hs =>
    exact ⟨1, 1, _, _, _, blk1_r h 0 0 0 (xK n s t 0) 0 (.inl ⟨rfl, rfl⟩) hx, rfl, hs, by show 1 < 4; decide, hnx, by rw [hf, hb]⟩
   | k + 1, hi, hb, hx, hnx, hs =>
    have hl : lP p n s t b K (2 * (k + 1) + 1) = uK p n s t b k := by rw [show 2 * (k + 1) + 1 = 2 * k + 3 by omega]; exact lP_u (by omega)
    have hfr : fP K (2 * (k + 1) + 1) = 2 := by
     show ((bP K (2 * (k + 1)) : Nat) : Int) = 2
     rw [show 2 * (k + 1) = 2 * k + 2 by omega, bP_even (by omega)]; rfl
    rw [hl, hfr]
    exact ⟨1, 1, _, _, _, blk1_r h (xK n s t k) (cK p n s t b k) (xK n s t (k + 1)) (xK n s t (k + 1)) 2 (.inr ⟨rfl, rfl⟩) hx, rfl, hs, by show 1 < 4; decide, hnx, by rw [hf, hb]⟩
  ·have hkK : k ≤ K := by omega
   have hfr : fP K (2 * k + 2) = 1 := by
    show ((bP K (2 * k + 1) : Nat) : Int) = 1
    rw [bP_odd]; rfl
   have hf : fP K (2 * k + 2 + 1) = ((bP K (2 * k + 2) : Nat) : Int) := rfl
   rw [lP_v, hfr, show 2 * k + 2 + 1 = 2 * k + 3 from rfl]
   by_cases hlt : k < K
   ·have hb := bP_even hlt
    have hs : sP K (2 * k + 3) = sP K (2 * k + 2) + 0 + 1 + 1 := by
     show sP K (2 * k + 2) + lenB (bP K (2 * k + 2)) = _
     rw [hb]; rfl
    rw [lP_u hlt, hb]
    exact ⟨0, 1, _, _, _, blk2_r h (xK n s t k) (cK p n s t b k) (zK n s t k) (xK_bd h k), rfl, hs, by show 2 < 4; decide, by rw [if_neg (by omega), show 2 * k + 3 = 2 * (k + 1) + 1 by omega, bP_odd]; rfl, by rw [show 2 * k + 3 = 2 * k + 2 + 1 from rfl, hf, hb]⟩
   ·obtain rfl : k = K := by omega
    have hb := bP_last k
    have hs : sP k (2 * k + 3) = sP k (2 * k + 2) + 0 + 0 + 1 := by
     show sP k (2 * k + 2) + lenB (bP k (2 * k + 2)) = _
     rw [hb]; rfl
    rw [lP_e, hb]
    exact ⟨0, 0, _, _, _, blk3_r (xK n s t k) (cK p n s t b k) (zK n s t k), rfl, hs, by show 3 < 4; decide, by rw [if_pos rfl], by rw [show 2 * k + 3 = 2 * k + 2 + 1 from rfl, hf, hb]⟩
end Go.Proofs.YtbbbflnnbbaamaaGreatDoor.PK
namespace Go.Proofs.YtbbbflnnbbaamaaGreatDoor.PK
open Go.RowKit Mini

theorem cell_v {w : World} {x : Env} {b ty esz i : Nat} {cells : List MV} {v : Value} (h : Mini.RowAt x w ⟨b, 0, 0⟩ (rowL ty esz cells)) (hc : cells[i]? = some (.v v)) : w.cell? ⟨b, i, none⟩ = some v := by
 have hi : i < cells.length := by
  rcases Nat.lt_or_ge i cells.length with h1 | h1
  ·exact h1
  ·rw [List.getElem?_eq_none h1] at hc; cases hc
 obtain ⟨u, h1, h2, _⟩ := h.cel i hi
 have hs : cells.length ≤ far := h.small
 have hcell : (rowL ty esz cells).cell i = .v v := by
  show ((Fill .nil 0 cells).get i).getD _ = _
  rw [get_fill _ _ _ _ (by omega), if_pos (by omega), Nat.sub_zero, hc]; rfl
 rw [hcell] at h2
 rw [h2.v_eq, Nat.zero_add] at h1
 exact h1
theorem cell_s {w : World} {b0 b ty esz i k len : Nat} {cells : List MV} (h : Mini.RowAt (env0 b0) w ⟨b, 0, 0⟩ (rowL ty esz cells)) (hc : cells[i]? = some (sv k len)) (hk : k < 14) : w.cell? ⟨b, i, none⟩ = some (.slice (some ⟨b0 + k, 0, none⟩) len len) := by
 have hi : i < cells.length := by
  rcases Nat.lt_or_ge i cells.length with h1 | h1
  ·exact h1
  ·rw [List.getElem?_eq_none h1] at hc; cases hc
 obtain ⟨u, h1, h2, _⟩ := h.cel i hi
 have hs : cells.length ≤ far := h.small
 have hcell : (rowL ty esz cells).cell i = sv k len := by
  show ((Fill .nil 0 cells).get i).getD _ = _
  rw [get_fill _ _ _ _ (by omega), if_pos (by omega), Nat.sub_zero, hc]; rfl
 rw [hcell] at h2
 rw [Nat.zero_add] at h1
 cases h2 with
 | sl h3 hc3 =>
  have he : env0 b0 k = some ⟨b0 + k, 0, 0⟩ := if_pos hk
  rw [he] at h3
  cases h3
  exact h1
abbrev A0 (b0 : Nat) : FunA := ⟨none, 0, none, 0, some ⟨b0 + 13, 0, none⟩, 4⟩
theorem nil_in (w : World) : IntsIn w none [] := fun _ hk => absurd hk (Nat.not_lt_zero _)
theorem one_in {w : World} {b0 b : Nat} {x : Int} (h : Mini.RowAt (env0 b0) w ⟨b, 0, 0⟩ (rowL 3 1 [iv x])) : IntsIn w (some ⟨b, 0, none⟩) [x] := fun k hk => by
 obtain rfl : k = 0 := by simpa using hk
 exact ⟨b, 0, rfl, cell_v (i := 0) h rfl⟩
theorem two_in {w : World} {b0 b : Nat} {x y : Int} (h : Mini.RowAt (env0 b0) w ⟨b, 0, 0⟩ (rowL 3 1 [iv x, iv y])) : IntsIn w (some ⟨b, 0, none⟩) [x, y] := fun k hk => by
 match k, hk with
 | 0, _ => exact ⟨b, 0, rfl, cell_v (i := 0) h rfl⟩
 | 1, _ => exact ⟨b, 0, rfl, cell_v (i := 1) h rfl⟩
 | k + 2, h => exact absurd h (by show ¬ k + 2 < 2; omega)
theorem f0_mem {w : World} {b0 p : Nat} {n : Int} {s t b : Nat} (h : F0Mem w b0 p n s t b) : FunIn w (F0 p n s t b) (A0 b0) := by
 have r0 := one_in (h 0 _ rfl); have r2 := two_in (h 2 _ rfl); have r3 := two_in (h 3 _ rfl); have r4 := two_in (h 4 _ rfl); have r5 := one_in (h 5 _ rfl); have r6 := two_in (h 6 _ rfl); have r8 := two_in (h 8 _ rfl); have r9 := one_in (h 9 _ rfl); have r11 := one_in (h 11 _ rfl)
 have i1 := h 1 _ rfl; have i7 := h 7 _ rfl; have i10 := h 10 _ rfl; have i12 := h 12 _ rfl; have q := h 13 _ rfl
 have hn := nil_in w
 refine ⟨hn, hn, fun k hk => ?_⟩
 match k, hk with
 | 0, _ =>
  refine ⟨b0 + 13, 0, some ⟨b0 + 1, 0, none⟩, 4, rfl, cell_s (i := 0) q rfl (by decide), fun i hi => ?_⟩
  match i, hi with
  | 0, _ => exact ⟨b0 + 1, 0, none, none, 0, 0, rfl, ⟨cell_v (i := 0) i1 rfl, cell_v (i := 1) i1 rfl, cell_v (i := 2) i1 rfl, cell_v (i := 3) i1 rfl, cell_v (i := 4) i1 rfl, cell_v (i := 5) i1 rfl, hn, hn⟩⟩
  | 1, _ => exact ⟨b0 + 1, 0, none, none, 0, 0, rfl, ⟨cell_v (i := 6) i1 rfl, cell_v (i := 7) i1 rfl, cell_v (i := 8) i1 rfl, cell_v (i := 9) i1 rfl, cell_v (i := 10) i1 rfl, cell_v (i := 11) i1 rfl, hn, hn⟩⟩
  | 2, _ => exact ⟨b0 + 1, 0, none, none, 0, 0, rfl, ⟨cell_v (i := 12) i1 rfl, cell_v (i := 13) i1 rfl, cell_v (i := 14) i1 rfl, cell_v (i := 15) i1 rfl, cell_v (i := 16) i1 rfl, cell_v (i := 17) i1 rfl, hn, hn⟩⟩
  | 3, _ => exact ⟨b0 + 1, 0, none, some ⟨b0 + 0, 0, none⟩, 0, 1, rfl, ⟨cell_v (i := 18) i1 rfl, cell_v (i := 19) i1 rfl, cell_v (i := 20) i1 rfl, cell_v (i := 21) i1 rfl, cell_v (i := 22) i1 rfl, cell_s (i := 23) i1 rfl (by decide), hn, r0⟩⟩
  | i + 4, h => exact absurd h (by show ¬ i + 4 < 4; omega)
 | 1, _ =>
  refine ⟨b0 + 13, 0, some ⟨b0 + 7, 0, none⟩, 3, rfl, cell_s (i := 1) q rfl (by decide), fun i hi => ?_⟩
  match i, hi with
  | 0, _ => exact ⟨b0 + 7, 0, some ⟨b0 + 2, 0, none⟩, some ⟨b0 + 3, 0, none⟩, 2, 2, rfl, ⟨cell_v (i := 0) i7 rfl, cell_v (i := 1) i7 rfl, cell_v (i := 2) i7 rfl, cell_s (i := 3) i7 rfl (by decide), cell_v (i := 4) i7 rfl, cell_s (i := 5) i7 rfl (by decide), r2, r3⟩⟩
  | 1, _ => exact ⟨b0 + 7, 0, some ⟨b0 + 4, 0, none⟩, none, 2, 0, rfl, ⟨cell_v (i := 6) i7 rfl, cell_v (i := 7) i7 rfl, cell_v (i := 8) i7 rfl, cell_s (i := 9) i7 rfl (by decide), cell_v (i := 10) i7 rfl, cell_v (i := 11) i7 rfl, r4, hn⟩⟩
  | 2, _ => exact ⟨b0 + 7, 0, some ⟨b0 + 5, 0, none⟩, some ⟨b0 + 6, 0, none⟩, 1, 2, rfl, ⟨cell_v (i := 12) i7 rfl, cell_v (i := 13) i7 rfl, cell_v (i := 14) i7 rfl, cell_s (i := 15) i7 rfl (by decide), cell_v (i := 16) i7 rfl, cell_s (i := 17) i7 rfl (by decide), r5, r6⟩⟩
  | i + 3, h => exact absurd h (by show ¬ i + 3 < 3; omega)
 | 2, _ =>
  refine ⟨b0 + 13, 0, some ⟨b0 + 10, 0, none⟩, 2, rfl, cell_s (i := 2) q rfl (by decide), fun i hi => ?_⟩
  match i, hi with
  | 0, _ => exact ⟨b0 + 10, 0, some ⟨b0 + 8, 0, none⟩, none, 2, 0, rfl, ⟨cell_v (i := 0) i10 rfl, cell_v (i := 1) i10 rfl, cell_v (i := 2) i10 rfl, cell_s (i := 3) i10 rfl (by decide), cell_v (i := 4) i10 rfl, cell_v (i := 5) i10 rfl, r8, hn⟩⟩
  | 1, _ => exact ⟨b0 + 10, 0, none, some ⟨b0 + 9, 0, none⟩, 0, 1, rfl, ⟨cell_v (i := 6) i10 rfl, cell_v (i := 7) i10 rfl, cell_v (i := 8) i10 rfl, cell_v (i := 9) i10 rfl, cell_v (i := 10) i10 rfl, cell_s (i := 11) i10 rfl (by decide), hn, r9⟩⟩
  | i + 2, h => exact absurd h (by show ¬ i + 2 < 2; omega)
 | 3, _ =>
  refine ⟨b0 + 13, 0, some ⟨b0 + 12, 0, none⟩, 1, rfl, cell_s (i := 3) q rfl (by decide), fun i hi => ?_⟩
  match i, hi with
  | 0, _ => exact ⟨b0 + 12, 0, some ⟨b0 + 11, 0, none⟩, none, 1, 0, rfl, ⟨cell_v (i := 0) i12 rfl, cell_v (i := 1) i12 rfl, cell_v (i := 2) i12 rfl, cell_s (i := 3) i12 rfl (by decide), cell_v (i := 4) i12 rfl, cell_v (i := 5) i12 rfl, r11, hn⟩⟩
  | i + 1, h => exact absurd h (by show ¬ i + 1 < 1; omega)
 | k + 4, h => exact absurd h (by show ¬ k + 4 < 4; omega)
theorem F0Mem.below {w w' : World} {b0 : Nat} {p n s t b : Int} (h : F0Mem w b0 p n s t b) (hb : Below w.heap.size w w') : F0Mem w' b0 p n s t b := fun k r hr => by
 have h0 := h k r hr
 obtain ⟨a, h1, h2⟩ := h0.arr
 exact ⟨⟨a, row_below h1 hb, h2⟩, fun i hi => by
  obtain ⟨v, h3, h4, h5⟩ := h0.cel i hi
  exact ⟨v, keep h3 hb, h4, h5⟩, h0.small⟩
end Go.Proofs.YtbbbflnnbbaamaaGreatDoor.PK
