/- Plain facts on the bytes of a table as they are written, place by place. No program in sight. -/
import Derived.Test.YtmhneonebjcieaaP2
namespace Go.Proofs.Ytmhneonebjcieaa

theorem take_next {l : List Pl} {k : Nat} (h : k < l.length) : l.take (k + 1) = l.take k ++ [at' l k] := by
  unfold at'
  rw [List.take_succ_eq_append_getElem h, List.getD_eq_getElem?_getD, List.getElem?_eq_getElem h]; rfl
def lastF (last : Int) : List Pl → Int
  | [] => last
  | p :: l => lastF p.fr l
theorem lastF_snoc : ∀ (l : List Pl) (last : Int) (p : Pl), lastF last (l ++ [p]) = p.fr
  | [], _, _ => rfl
  | q :: l, _, p => lastF_snoc l q.fr p
theorem numsP_snoc : ∀ (l : List Pl) (last : Int) (p : Pl), numsP last (l ++ [p]) = numsP last l ++ fieldsP (lastF last l) p
  | [], last, p => by simp [numsP, lastF]
  | q :: l, last, p => by
    show fieldsP last q ++ numsP q.fr (l ++ [p]) = (fieldsP last q ++ numsP q.fr l) ++ fieldsP (lastF q.fr l) p
    rw [numsP_snoc l q.fr p, List.append_assoc]
/-- The bytes of the count and the first k places. -/
def encK (l : List Pl) (k : Nat) : List Nat := grp l.length ++ (numsP 0 (l.take k)).flatMap grp
/-- From where the next place is counted. -/
def fromK (l : List Pl) (k : Nat) : Int := lastF 0 (l.take k)
theorem encK_zero (l : List Pl) : encK l 0 = grp l.length := by simp [encK, numsP]
theorem fromK_zero (l : List Pl) : fromK l 0 = 0 := rfl
theorem encK_full (l : List Pl) : encK l l.length = encB l := by unfold encK encB; rw [List.take_length]
theorem fromK_succ {l : List Pl} {k : Nat} (h : k < l.length) : fromK l (k + 1) = (at' l k).fr := by
  unfold fromK; rw [take_next h, lastF_snoc]
theorem encK_succ {l : List Pl} {k : Nat} (h : k < l.length) : encK l (k + 1) = encK l k ++ grp ((at' l k).fr - fromK l k).toNat ++ grp ((at' l k).to - (at' l k).fr).toNat ++ grp (at' l k).va.toNat ++ grp (at' l k).ki.toNat ++ grp (at' l k).nn.toNat := by
  unfold encK fromK
  rw [take_next h, numsP_snoc, List.flatMap_append]
  simp [fieldsP]
theorem fromK_bd {l : List Pl} (h : Table l) {k : Nat} (hk : k < l.length) : 0 ≤ fromK l k ∧ fromK l k ≤ (at' l k).fr := by
  cases k with
  | zero => exact ⟨Int.le_refl _, (h.good 0 hk).f0⟩
  | succ k =>
    rw [fromK_succ (by omega)]
    have := h.step 1 k hk
    exact ⟨(h.good k (by omega)).f0, this⟩
theorem grp_le5 {n : Nat} (h : n ≤ 4294967295) : (grp n).length ≤ 5 := grp_len 4 n (by omega)
theorem encK_len {l : List Pl} (h : Table l) : ∀ k, k ≤ l.length → (encK l k).length ≤ 5 + 25 * k
  | 0, _ => by rw [encK_zero]; have := grp_le5 (n := l.length) (by have := h.len; omega); omega
  | k + 1, hk => by
    have ih := encK_len h k (by omega)
    have hb := fromK_bd h (k := k) (by omega)
    have hg := h.good k (by omega)
    have := limK_le (at' l k).ki
    obtain ⟨a, b, c, d, e, f, g, hh, i⟩ := hg
    rw [encK_succ (by omega)]
    simp only [List.length_append]
    have g1 := grp_le5 (n := ((at' l k).fr - fromK l k).toNat) (by omega)
    have g2 := grp_le5 (n := ((at' l k).to - (at' l k).fr).toNat) (by omega)
    have g3 := grp_le5 (n := (at' l k).va.toNat) (by omega)
    have g4 := grp_le5 (n := (at' l k).ki.toNat) (by omega)
    have g5 := grp_le5 (n := (at' l k).nn.toNat) (by omega)
    omega
theorem encB_len {l : List Pl} (h : Table l) : (encB l).length ≤ 1605 := by
  have := encK_len h l.length (Nat.le_refl _)
  rw [encK_full] at this
  have := h.len
  omega
end Go.Proofs.Ytmhneonebjcieaa
