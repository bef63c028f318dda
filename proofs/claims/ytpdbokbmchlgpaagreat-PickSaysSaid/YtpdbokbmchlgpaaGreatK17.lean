/- Packed of several texts. -/
import Derived.Test.YtpdbokbmchlgpaaGreatK08
namespace Go.Proofs.YtpdbokbmchlgpaaGreat.PK

/-- The kinds of the Args of an instruction. -/
def ksI (K : List Int) (x : Ins) : List Int := x.ar.map (ofI K)
theorem ksI_len (K : List Int) (x : Ins) : (ksI K x).length = x.ar.length := by simp [ksI]
theorem ksI_get {K : List Int} {x : Ins} {k : Nat} (h : k < x.ar.length) : (ksI K x).getD k 0 = ofI K (x.ar.getD k 0) := by
  unfold ksI
  rw [List.getD_eq_getElem?_getD, List.getD_eq_getElem?_getD, List.getElem?_map, List.getElem?_eq_getElem h]; rfl
/-- The Args have the kinds that are asked for, as the specification tells it. -/
def rtyB (op wd ret : Int) (ks : List Int) : Bool :=
  ks.all (fun k => decide (0 ≤ k)) &&
  (if op = 14 then isNum (ks.getD 0 0) && decide (ks.getD 1 0 = ks.getD 0 0)
  else if op = 15 then decide (ks.getD 0 0 = 1) && (decide (ks.getD 1 0 = wd) && decide (ks.getD 2 0 = wd))
  else if op = 16 ∨ op = 17 then isNum (ks.getD 0 0) && decide (ks.getD 0 0 < wd)
  else if op = 18 then isNum (ks.getD 0 0) && decide (wd < ks.getD 0 0)
  else if op = 25 then decide (ks.getD 0 0 = 33) && isNum (ks.getD 1 0)
  else if op = 26 then decide (ks.getD 0 0 = 33)
  else if op = 27 then decide (ks.getD 0 0 = 33) && isMm (ks.getD 1 0)
  else if op = 30 then decide (ks.getD 0 0 = 1)
  else if op = 31 then decide (ks.length = 0) || decide (ks.getD 0 0 = ret)
  else ks.all fun k => decide (k = wd))
/-- The Args have the kinds that are asked for, as the program tells it. -/
def ityB (c wd ret : Int) (ks : List Int) : Bool :=
  if c = 2 ∨ c = 7 ∨ c = 8 ∨ c = 14 then ks.all fun k => decide (k = wd)
  else if c = 3 then isNum (ks.getD 0 0) && ks.all fun k => decide (k = ks.getD 0 0)
  else if c = 4 then decide (ks.getD 0 0 = 1) && (decide (ks.getD 1 0 = wd) && decide (ks.getD 2 0 = wd))
  else if c = 5 then isNum (ks.getD 0 0) && decide (ks.getD 0 0 < wd)
  else if c = 6 then isNum (ks.getD 0 0) && decide (wd < ks.getD 0 0)
  else if c = 11 then decide (ks.getD 0 0 = 33) && isNum (ks.getD 1 0)
  else if c = 12 then decide (ks.getD 0 0 = 33)
  else if c = 13 then decide (ks.getD 0 0 = 33) && isMm (ks.getD 1 0)
  else if c = 16 then decide (ks.getD 0 0 = 1)
  else if c = 17 then ks.all fun k => decide (k = ret)
  else true
theorem cls_2 {op : Int} (h : 1 ≤ op ∧ op ≤ 13) : clsI op = 2 := by
  unfold clsI
  repeat (first | rw [if_neg (by omega)] | rw [if_pos h])
theorem cls_no {op : Int} (h : clsI op ≠ 0) : (1 ≤ op ∧ op ≤ 13) ∨ op = 0 ∨ op = 14 ∨ op = 15 ∨ op = 16 ∨ op = 17 ∨ op = 18 ∨ op = 19 ∨ op = 20 ∨ op = 21 ∨ op = 22 ∨ op = 23 ∨ op = 24 ∨ op = 25 ∨ op = 26 ∨ op = 27 ∨ op = 28 ∨ op = 29 ∨ op = 30 ∨ op = 31 ∨ op = 32 := by
  unfold clsI at h
  revert h
  repeat' split
  all_goals intro h
  all_goals omega
theorem list_0 {l : List Int} (h : l.length = 0) : l = [] := List.length_eq_zero_iff.1 h
theorem list_1 {l : List Int} (h : l.length = 1) : ∃ a, l = [a] := List.length_eq_one_iff.1 h
theorem list_2 {l : List Int} (h : l.length = 2) : ∃ a b, l = [a, b] := by
  match l, h with
  | [a, b], _ => exact ⟨a, b, rfl⟩
theorem list_3 {l : List Int} (h : l.length = 3) : ∃ a b c, l = [a, b, c] := by
  match l, h with
  | [a, b, c], _ => exact ⟨a, b, c, rfl⟩
theorem all_wd {wd : Int} (h : 0 ≤ wd) (ks : List Int) : (ks.all (fun k => decide (0 ≤ k)) && ks.all fun k => decide (k = wd)) = ks.all fun k => decide (k = wd) := by
  rw [Bool.eq_iff_iff]
  simp only [Bool.and_eq_true, List.all_eq_true, decide_eq_true_eq]
  exact ⟨fun h => h.2, fun h2 => ⟨fun k hk => by rw [h2 k hk]; exact h, h2⟩⟩
/-- Both forms agree at an instruction of the right shape. -/
theorem ty_eq (F : Fun) (x : Ins) (ks : List Int) (hr : 0 ≤ F.ret) (hsh : shapeB F x = true) (hk : ks.length = x.ar.length) : rtyB x.op x.wd F.ret ks = ityB (clsI x.op) x.wd F.ret ks := by
  unfold shapeB formI argsI at hsh
  simp only [Bool.and_eq_true, decide_eq_true_eq] at hsh
  obtain ⟨h1, h2, _, h3, _⟩ := hsh
  rw [← hk] at h3
  generalize x.tt.length = T at *
  generalize x.op = op at *
  generalize x.wd = wd at *
  generalize x.im = im at *
  generalize F.ret = ret at *
  rcases cls_no h1 with hc | h | h | h | h | h | h | h | h | h | h | h | h | h | h | h | h | h | h | h | h
  · have e : clsI op = 2 := cls_2 hc
    rw [e] at h2
    simp [isNum] at h2
    have e1 : ityB 2 wd ret ks = ks.all fun k => decide (k = wd) := if_pos (.inl rfl)
    have e2 : rtyB op wd ret ks = (ks.all (fun k => decide (0 ≤ k)) && ks.all fun k => decide (k = wd)) := by
      unfold rtyB
      rw [if_neg (by omega), if_neg (by omega), if_neg (by omega), if_neg (by omega), if_neg (by omega), if_neg (by omega), if_neg (by omega), if_neg (by omega), if_neg (by omega)]
    rw [e, e1, e2]
    exact all_wd (by omega) ks
  all_goals subst h
  all_goals simp [clsI, isNum, isMm] at h2 h3
  · subst h3; rfl
  · obtain ⟨a, b, rfl⟩ := list_2 (l := ks) (by omega)
    rw [Bool.eq_iff_iff]; simp [rtyB, ityB, clsI, isNum]; omega
  · obtain ⟨a, b, c, rfl⟩ := list_3 (l := ks) (by omega)
    rw [Bool.eq_iff_iff]; simp [rtyB, ityB, clsI]; omega
  · obtain ⟨a, rfl⟩ := list_1 (l := ks) (by omega)
    rw [Bool.eq_iff_iff]; simp [rtyB, ityB, clsI, isNum]; omega
  · obtain ⟨a, rfl⟩ := list_1 (l := ks) (by omega)
    rw [Bool.eq_iff_iff]; simp [rtyB, ityB, clsI, isNum]; omega
  · obtain ⟨a, rfl⟩ := list_1 (l := ks) (by omega)
    rw [Bool.eq_iff_iff]; simp [rtyB, ityB, clsI, isNum]; omega
  · exact all_wd (by omega) ks
  · exact all_wd (by omega) ks
  · exact all_wd (by omega) ks
  · subst h3; rfl
  · subst h3; rfl
  · subst h3; rfl
  · obtain ⟨a, b, rfl⟩ := list_2 (l := ks) (by omega)
    rw [Bool.eq_iff_iff]; simp [rtyB, ityB, clsI, isNum]; omega
  · obtain ⟨a, rfl⟩ := list_1 (l := ks) (by omega)
    rw [Bool.eq_iff_iff]; simp [rtyB, ityB, clsI]; omega
  · obtain ⟨a, b, rfl⟩ := list_2 (l := ks) (by omega)
    rw [Bool.eq_iff_iff]; simp [rtyB, ityB, clsI, isMm]; omega
  · exact all_wd (by omega) ks
  · subst h3; rfl
  · obtain ⟨a, rfl⟩ := list_1 (l := ks) (by omega)
    rw [Bool.eq_iff_iff]; simp [rtyB, ityB, clsI]; omega
  · by_cases hz : ks.length = 0
    · obtain rfl := list_0 hz; rfl
    · obtain ⟨a, rfl⟩ := list_1 (l := ks) (by omega)
      rw [Bool.eq_iff_iff]; simp [rtyB, ityB, clsI]; omega
  · subst h3; rfl
end Go.Proofs.YtpdbokbmchlgpaaGreat.PK
