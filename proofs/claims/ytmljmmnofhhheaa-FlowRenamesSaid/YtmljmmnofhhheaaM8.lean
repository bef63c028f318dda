/- Plain facts on renaming: lists of numbers that take every place once; the visit of a renamed graph. -/
import Derived.Test.YtmljmmnofhhheaaM7
namespace Go.Proofs.Ytmljmmnofhhheaa

theorem sub_len : ∀ (l m : List Int), l.Nodup → (∀ x ∈ l, x ∈ m) → l.length ≤ m.length
  | [], m, _, _ => Nat.zero_le _
  | x :: l, m, hn, h => by
    obtain ⟨hx, hl⟩ := List.nodup_cons.1 hn
    have hm := h x (by simp)
    have h1 := sub_len l (m.erase x) hl fun y hy => by
      have hne : y ≠ x := fun e => hx (e ▸ hy)
      exact (List.mem_erase_of_ne hne).2 (h y (by simp [hy]))
    rw [List.length_erase_of_mem hm] at h1
    have := List.length_pos_of_mem hm
    simp only [List.length_cons]
    omega
def upto (n : Nat) : List Int := (List.range n).map fun (x : Nat) => (x : Int)
theorem upto_len (n : Nat) : (upto n).length = n := by simp [upto]
theorem upto_mem {n : Nat} {x : Int} : x ∈ upto n ↔ 0 ≤ x ∧ x < n := by
  unfold upto
  rw [List.mem_map]
  constructor
  · rintro ⟨y, hy, rfl⟩
    rw [List.mem_range] at hy
    omega
  · rintro ⟨h1, h2⟩
    exact ⟨x.toNat, by rw [List.mem_range]; omega, by omega⟩
theorem upto_nodup (n : Nat) : (upto n).Nodup := by
  unfold upto List.Nodup
  rw [List.pairwise_map]
  exact (List.nodup_range (n := n)).imp fun h e => h (by omega)
theorem getD_memI {xs : List Int} {i : Nat} (h : i < xs.length) : xs.getD i 0 ∈ xs := by
  rw [List.getD_eq_getElem?_getD, List.getElem?_eq_getElem h]; simp
theorem mem_getD {xs : List Int} {x : Int} (h : x ∈ xs) : ∃ i, i < xs.length ∧ xs.getD i 0 = x := by
  obtain ⟨i, hi, e⟩ := List.mem_iff_getElem.1 h
  exact ⟨i, hi, by rw [List.getD_eq_getElem?_getD, List.getElem?_eq_getElem hi]; exact e⟩
/-- A list of places: as long as asked, the first stays, every place is there. -/
def permB (to : List Int) (n : Nat) : Bool := decide (to.length = n) && (decide (to.getD 0 0 = 0) && decide (∀ v, v < n → (v : Int) ∈ to))
theorem permB_iff {to : List Int} {n : Nat} : permB to n = true ↔ to.length = n ∧ to.getD 0 0 = 0 ∧ ∀ v, v < n → (v : Int) ∈ to := by
  unfold permB
  rw [Bool.and_eq_true, Bool.and_eq_true, decide_eq_true_iff, decide_eq_true_iff, decide_eq_true_iff]
/-- The first places are taken, each once. -/
def Once (to : List Int) (n k : Nat) : Prop := (∀ i, i < k → 0 ≤ to.getD i 0 ∧ to.getD i 0 < n) ∧ ∀ i j, i < k → j < k → to.getD i 0 = to.getD j 0 → i = j
theorem Once.zero {to : List Int} {n : Nat} : Once to n 0 := ⟨fun _ h => absurd h (Nat.not_lt_zero _), fun _ _ h => absurd h (Nat.not_lt_zero _)⟩
theorem Once.next {to : List Int} {n k : Nat} (h : Once to n k) (h0 : 0 ≤ to.getD k 0) (h1 : to.getD k 0 < n) (h2 : ∀ i, i < k → to.getD i 0 ≠ to.getD k 0) : Once to n (k + 1) := by
  refine ⟨fun i hi => ?_, fun i j hi hj e => ?_⟩
  · by_cases c : i = k
    · subst c; exact ⟨h0, h1⟩
    · exact h.1 i (by omega)
  · by_cases c : i = k
    · by_cases d : j = k
      · omega
      · subst c; exact absurd e.symm (h2 j (by omega))
    · by_cases d : j = k
      · subst d; exact absurd e (h2 i (by omega))
      · exact h.2 i j (by omega) (by omega) e
theorem once_all {to : List Int} {n : Nat} (hl : to.length = n) (h : Once to n n) : ∀ v, v < n → (v : Int) ∈ to := by
  intro v hv
  apply Classical.byContradiction
  intro c
  have hnd : to.Nodup := by
    rw [List.nodup_iff_pairwise_ne, List.pairwise_iff_getElem]
    intro i j hi hj hij e
    have := h.2 i j (by omega) (by omega) (by rw [List.getD_eq_getElem?_getD, List.getD_eq_getElem?_getD, List.getElem?_eq_getElem hi, List.getElem?_eq_getElem hj]; exact e)
    omega
  have h1 := sub_len to ((upto n).erase v) hnd fun x hx => by
    obtain ⟨i, hi, rfl⟩ := mem_getD hx
    have hne : to.getD i 0 ≠ (v : Int) := fun e => c (e ▸ hx)
    exact (List.mem_erase_of_ne hne).2 (upto_mem.2 (h.1 i (by omega)))
  rw [List.length_erase_of_mem (upto_mem.2 ⟨by omega, by omega⟩), upto_len] at h1
  omega
theorem all_once {to : List Int} {n : Nat} (hl : to.length = n) (h : ∀ v, v < n → (v : Int) ∈ to) : Once to n n := by
  have key : ∀ k, k < n → (∀ v, v < n → ∃ i, i < n ∧ i ≠ k ∧ to.getD i 0 = (v : Int)) → False := by
    intro k hk hall
    have h1 := sub_len (upto n) (to.eraseIdx k) (upto_nodup n) fun x hx => by
      obtain ⟨h0, h1⟩ := upto_mem.1 hx
      obtain ⟨i, hi, hne, e⟩ := hall x.toNat (by omega)
      rw [List.mem_eraseIdx_iff_getElem]
      refine ⟨i, by omega, hne, ?_⟩
      rw [List.getD_eq_getElem?_getD, List.getElem?_eq_getElem (by omega)] at e
      have e' : to[i] = ((x.toNat : Nat) : Int) := e
      rw [e']; omega
    rw [List.length_eraseIdx_of_lt (by omega), upto_len] at h1
    omega
  refine ⟨fun k hk => ?_, fun j k hj hk e => ?_⟩
  · apply Classical.byContradiction
    intro c
    refine key k hk fun v hv => ?_
    obtain ⟨i, hi, e⟩ := mem_getD (h v hv)
    refine ⟨i, by omega, fun hik => ?_, e⟩
    subst hik
    exact c (by omega)
  · apply Classical.byContradiction
    intro c
    refine key k hk fun v hv => ?_
    obtain ⟨i, hi, e'⟩ := mem_getD (h v hv)
    by_cases hik : i = k
    · subst hik
      exact ⟨j, hj, c, e.trans e'⟩
    · exact ⟨i, by omega, hik, e'⟩
def tN (to : List Int) (x : Nat) : Nat := (to.getD x 0).toNat
def posOf (to : List Int) (v : Nat) : Nat := ((List.range to.length).find? fun i => to.getD i 0 == (v : Int)).getD 0
theorem posOf_eq {to : List Int} {n i v : Nat} (hl : to.length = n) (h : Once to n n) (hi : i < n) (e : to.getD i 0 = (v : Int)) : posOf to v = i := by
  unfold posOf
  cases hf : (List.range to.length).find? fun i => to.getD i 0 == (v : Int) with
  | none =>
    have := List.find?_eq_none.1 hf i (by rw [List.mem_range]; omega)
    rw [e] at this
    simp at this
  | some j =>
    have h1 := List.mem_of_find?_eq_some hf
    have h2 := List.find?_some hf
    rw [List.mem_range] at h1
    have h3 : to.getD j 0 = (v : Int) := by simpa using h2
    exact h.2 j i (by omega) hi (h3.trans e.symm)
/-- The graph with other numbers. -/
def renG (g : Gr) (to : List Int) : Gr := (List.range g.length).map fun v => (succ g (posOf to v)).map (tN to)
theorem renG_len (g : Gr) (to : List Int) : (renG g to).length = g.length := by simp [renG]
theorem renG_succ {g : Gr} {to : List Int} {v : Nat} (hv : v < g.length) : succ (renG g to) v = (succ g (posOf to v)).map (tN to) := by
  unfold renG
  simp [succ, List.getD_eq_getElem?_getD, hv]
theorem tN_cast {to : List Int} {n i : Nat} (h : Once to n n) (hi : i < n) : ((tN to i : Nat) : Int) = to.getD i 0 ∧ tN to i < n := by
  have := h.1 i hi
  unfold tN
  omega
theorem renG_at {g : Gr} {to : List Int} {i : Nat} (hl : to.length = g.length) (h : Once to g.length g.length) (hi : i < g.length) : succ (renG g to) (tN to i) = (succ g i).map (tN to) := by
  obtain ⟨h1, h2⟩ := tN_cast h hi
  rw [renG_succ h2, posOf_eq hl h hi h1.symm]
theorem renG_ok {g : Gr} {to : List Int} (ok : OkG g) (h : Once to g.length g.length) : OkG (renG g to) := by
  have hs : ∀ v, v < g.length → succ (renG g to) v = (succ g (posOf to v)).map (tN to) := fun v hv => renG_succ hv
  refine ⟨fun v x hx => ?_, by rw [renG_len]; exact ok.pos, by rw [renG_len]; exact ok.ten, fun v => ?_⟩
  · have hv := lt_of_succ hx
    rw [renG_len] at hv ⊢
    rw [hs v hv] at hx
    obtain ⟨y, hy, rfl⟩ := List.mem_map.1 hx
    exact (tN_cast h (ok.fits _ _ hy)).2
  · by_cases hv : v < g.length
    · rw [hs v hv, List.length_map]; exact ok.deg _
    · rw [succ_out (by rw [renG_len]; omega)]; simp

/-- Two states of a visit that are one but for the numbers. -/
def Sim (t : Nat → Nat) (n : Nat) (s s' : VSt) : Prop := (∀ j, j < n → s'.1 (t j) = s.1 j) ∧ s'.2 = s.2.map t
theorem ovis_sim {g g' : Gr} {t : Nat → Nat} (ok : OkG g) (hinj : ∀ i j, i < g.length → j < g.length → t i = t j → i = j) (hs : ∀ v, v < g.length → succ g' (t v) = (succ g v).map t) (f : Nat) :
    ∀ (v : Nat) (s s' : VSt), v < g.length → Sim t g.length s s' → Sim t g.length (ovis g f v s) (ovis g' f (t v) s') := by
  induction f with
  | zero => intro v s s' _ h; exact h
  | succ f ih =>
    intro v s s' hv h
    have hl : ∀ (l : List Nat) (a a' : VSt), (∀ x ∈ l, x < g.length) → Sim t g.length a a' → Sim t g.length (l.foldl (fun s x => if s.1 x then s else ovis g f x s) a) ((l.map t).foldl (fun s x => if s.1 x then s else ovis g' f x s) a') := by
      intro l
      induction l with
      | nil => intro a a' _ h; exact h
      | cons x l ihl =>
        intro a a' hx ha
        rw [List.map_cons, List.foldl_cons, List.foldl_cons]
        have hxl := hx x (by simp)
        refine ihl _ _ (fun y hy => hx y (by simp [hy])) ?_
        rw [ha.1 x hxl]
        cases a.1 x
        · exact ih x a a' hxl ha
        · exact ha
    have hm : Sim t g.length (mark s.1 v, s.2) (mark s'.1 (t v), s'.2) := by
      refine ⟨fun j hj => ?_, h.2⟩
      unfold mark
      show (s'.1 (t j) || decide (t j = t v)) = (s.1 j || decide (j = v))
      rw [h.1 j hj]
      congr 1
      rw [decide_eq_decide]
      exact ⟨hinj j v hj hv, fun e => by rw [e]⟩
    have h1 := hl (succ g v) _ _ (fun x hx => ok.fits _ _ hx) hm
    unfold ovis
    rw [hs v hv]
    refine ⟨h1.1, ?_⟩
    show _ ++ [t v] = List.map t (_ ++ [v])
    rw [List.map_append, h1.2]
    rfl
theorem order_ren {g : Gr} {to : List Int} (ok : OkG g) (hl : to.length = g.length) (h : Once to g.length g.length) (h0 : to.getD 0 0 = 0) : orderL (renG g to) = (orderL g).map (tN to) := by
  have hinj : ∀ i j, i < g.length → j < g.length → tN to i = tN to j → i = j := fun i j hi hj e => by
    refine h.2 i j hi hj ?_
    rw [← (tN_cast h hi).1, ← (tN_cast h hj).1, e]
  have hz : tN to 0 = 0 := by unfold tN; rw [h0]; rfl
  have := ovis_sim (g' := renG g to) ok hinj (fun v hv => renG_at hl h hv) 10 0 (fun _ => false, []) (fun _ => false, []) ok.pos ⟨fun _ _ => rfl, rfl⟩
  rw [hz] at this
  unfold orderL leftL
  rw [this.2, List.map_reverse]
end Go.Proofs.Ytmljmmnofhhheaa
