/- Plainly: instructions in another order, that keeps what depends, do the same. No program in sight. -/
import Derived.Test.YtccpjfppkahbmaaH0
import Derived.Test.YtccpjfppkahbmaaM1
namespace Go.Proofs.Ytccpjfppkahbmaa
open Go.RowKit PK

def rgA (g : List Int) (x : Cd) : Int := if fA x.op = true ∧ 0 ≤ x.a then g.getD x.a.toNat 0 else 0
def rgB (g : List Int) (x : Cd) : Int := if fB x.op = true then g.getD x.b.toNat 0 else 0
def plcC (g : List Int) (x : Cd) : Nat := ((rgA g x + x.im) % 4294967296).toNat
def badC (g m : List Int) (x : Cd) : Bool := if fM x.op = true then decide (m.length < plcC g x + nB x.op) else brkF x.op (rgA g x) (rgB g x)
def valC (g m : List Int) (x : Cd) : Int := if fM x.op = true then rdF m (plcC g x) (nB x.op) else if x.op = 0 then x.im else if x.op = 1 then rgA g x else resF x.op (rgA g x) (rgB g x)
def memC (g m : List Int) (x : Cd) : List Int := wrF m (plcC g x) (nB x.op) (rgB g x)
/-- One instruction of a stretch, on registers and memory. -/
def stepC (s : List Int × List Int) (x : Cd) : Option (List Int × List Int) :=
  if badC s.1 s.2 x = true then none else if 21 ≤ x.op then some (s.1, memC s.1 s.2 x) else some (s.1.set x.d.toNat (valC s.1 s.2 x), s.2)
def foldC : List Cd → List Int × List Int → Option (List Int × List Int)
  | [], s => some s
  | x :: l, s => match stepC s x with
    | none => none
    | some t => foldC l t
theorem foldC_some {x : Cd} {l : List Cd} {s t : List Int × List Int} (h : stepC s x = some t) : foldC (x :: l) s = foldC l t := by
  show (match stepC s x with | none => none | some t => foldC l t) = _
  rw [h]
theorem foldC_none {x : Cd} {l : List Cd} {s : List Int × List Int} (h : stepC s x = none) : foldC (x :: l) s = none := by
  show (match stepC s x with | none => none | some t => foldC l t) = _
  rw [h]
theorem okC_low {x : Cd} (h : okC x = true) : (0 ≤ x.op ∧ x.op ≤ 23) ∧ (x.op ≤ 20 → 0 ≤ x.d) ∧ (fB x.op = true → 0 ≤ x.b) := by
  unfold okC at h
  rw [Bool.and_eq_true, Bool.and_eq_true, decide_eq_true_eq, decide_eq_true_eq] at h
  obtain ⟨h0, h1, h2⟩ := h
  obtain ⟨_, hd, _, _, _, hb, _⟩ := code_parts h2
  exact ⟨⟨h0, h1⟩, fun c => (hd (by unfold fD; rw [decide_eq_true_eq]; omega)).1, fun c => (hb c).1⟩
theorem uses_a {x : Cd} (h : fA x.op = true) (h0 : 0 ≤ x.a) : x.a ∈ usesL x := by
  unfold usesL
  rw [h, decide_eq_true h0]
  simp only [Bool.and_self, if_true]
  repeat' split
  all_goals simp
theorem uses_b {x : Cd} (h : fB x.op = true) : x.b ∈ usesL x := by
  unfold usesL
  rw [h]
  by_cases hc : (fA x.op && decide (0 ≤ x.a)) = true
  · rw [if_pos hc]
    by_cases he : x.b = x.a
    · rw [decide_eq_true he]; simp [he]
    · rw [decide_eq_false he]
      simp only [Bool.not_false, Bool.and_self, if_true]
      split <;> simp
  · rw [if_neg hc]; simp
theorem getD_set_ne {g : List Int} {i j : Nat} {v : Int} (h : i ≠ j) : (g.set i v).getD j 0 = g.getD j 0 := by
  rw [List.getD_eq_getElem?_getD, List.getD_eq_getElem?_getD, List.getElem?_set_ne h]
theorem rgA_set {g : List Int} {x : Cd} {d v : Int} (hd : 0 ≤ d) (h : (usesL x).contains d = false) : rgA (g.set d.toNat v) x = rgA g x := by
  unfold rgA
  by_cases c : fA x.op = true ∧ 0 ≤ x.a
  · rw [if_pos c, if_pos c, getD_set_ne]
    intro e
    have hm := uses_a c.1 c.2
    have : x.a = d := by have := c.2; omega
    rw [this, ← List.contains_iff_mem, h] at hm
    cases hm
  · rw [if_neg c, if_neg c]
theorem rgB_set {g : List Int} {x : Cd} {d v : Int} (hd : 0 ≤ d) (hb : fB x.op = true → 0 ≤ x.b) (h : (usesL x).contains d = false) : rgB (g.set d.toNat v) x = rgB g x := by
  unfold rgB
  by_cases c : fB x.op = true
  · rw [if_pos c, if_pos c, getD_set_ne]
    intro e
    have hm := uses_b c
    have h0 := hb c
    have : x.b = d := by omega
    rw [this, ← List.contains_iff_mem, h] at hm
    cases hm
  · rw [if_neg c, if_neg c]
theorem plcC_set {g : List Int} {x : Cd} {d v : Int} (hd : 0 ≤ d) (h : (usesL x).contains d = false) : plcC (g.set d.toNat v) x = plcC g x := by
  unfold plcC; rw [rgA_set hd h]
theorem badC_set {g m : List Int} {x : Cd} {d v : Int} (hd : 0 ≤ d) (hb : fB x.op = true → 0 ≤ x.b) (h : (usesL x).contains d = false) : badC (g.set d.toNat v) m x = badC g m x := by
  unfold badC; rw [plcC_set hd h, rgA_set hd h, rgB_set hd hb h]
theorem valC_set {g m : List Int} {x : Cd} {d v : Int} (hd : 0 ≤ d) (hb : fB x.op = true → 0 ≤ x.b) (h : (usesL x).contains d = false) : valC (g.set d.toNat v) m x = valC g m x := by
  unfold valC; rw [plcC_set hd h, rgA_set hd h, rgB_set hd hb h]
theorem memC_set {g m : List Int} {x : Cd} {d v : Int} (hd : 0 ≤ d) (hb : fB x.op = true → 0 ≤ x.b) (h : (usesL x).contains d = false) : memC (g.set d.toNat v) m x = memC g m x := by
  unfold memC; rw [plcC_set hd h, rgB_set hd hb h]
theorem badC_mem {g m : List Int} {x y : Cd} (h : fM y.op = false) : badC g (memC g m x) y = badC g m y := by
  unfold badC; rw [h]; rfl
theorem valC_mem {g m : List Int} {x y : Cd} (h : fM y.op = false) : valC g (memC g m x) y = valC g m y := by
  unfold valC; rw [h]; rfl
theorem stepC_cases {s t : List Int × List Int} {x : Cd} (h : stepC s x = some t) : badC s.1 s.2 x = false ∧ (21 ≤ x.op ∧ t = (s.1, memC s.1 s.2 x) ∨ ¬ 21 ≤ x.op ∧ t = (s.1.set x.d.toNat (valC s.1 s.2 x), s.2)) := by
  unfold stepC at h
  split at h
  · cases h
  · rename_i hb
    refine ⟨by rwa [Bool.not_eq_true] at hb, ?_⟩
    split at h
    · rename_i hc; exact .inl ⟨hc, (Option.some.inj h).symm⟩
    · rename_i hc; exact .inr ⟨hc, (Option.some.inj h).symm⟩
theorem stepC_st {s : List Int × List Int} {x : Cd} (hb : badC s.1 s.2 x = false) (h : 21 ≤ x.op) : stepC s x = some (s.1, memC s.1 s.2 x) := by
  unfold stepC; rw [hb, if_neg (by decide), if_pos h]
theorem stepC_rg {s : List Int × List Int} {x : Cd} (hb : badC s.1 s.2 x = false) (h : ¬ 21 ≤ x.op) : stepC s x = some (s.1.set x.d.toNat (valC s.1 s.2 x), s.2) := by
  unfold stepC; rw [hb, if_neg (by decide), if_neg h]
theorem depB_no {x y : Cd} (h : depB x y = false) : (memB x.op = true → memB y.op = true → (stB x.op || stB y.op) = false) ∧ (fD x.op = true → (usesL y).contains x.d = false) ∧ (fD y.op = true → (usesL x).contains y.d = false) ∧ (fD x.op = true → fD y.op = true → x.d ≠ y.d) := by
  unfold depB at h
  rw [Bool.or_eq_false_iff, Bool.or_eq_false_iff, Bool.or_eq_false_iff] at h
  obtain ⟨h1, h2, h3, h4⟩ := h
  refine ⟨fun a b => ?_, fun a => ?_, fun a => ?_, fun a b => ?_⟩
  · rw [a, b] at h1; exact h1
  · rw [a] at h2; exact h2
  · rw [a] at h3; exact h3
  · rw [a, b] at h4; exact of_decide_eq_false h4
theorem stB_of {op : Int} (h : 21 ≤ op) (h2 : op ≤ 23) : stB op = true := by unfold stB; rw [decide_eq_true h, decide_eq_true h2]; rfl
theorem memB_of {op : Int} (h : 18 ≤ op) (h2 : op ≤ 23) : memB op = true := by unfold memB; rw [decide_eq_true h, decide_eq_true h2]; rfl
theorem fD_of {op : Int} (h : 0 ≤ op) (h2 : ¬ 21 ≤ op) : fD op = true := by unfold fD; rw [decide_eq_true_eq]; omega
theorem fM_of_st {x y : Cd} (hx : 21 ≤ x.op) (hx2 : x.op ≤ 23) (h : memB y.op = true → stB x.op = false) : fM y.op = false := by
  rw [← Bool.not_eq_true]
  intro c
  unfold fM at c
  rw [decide_eq_true_eq] at c
  have := h (memB_of c.1 c.2)
  rw [stB_of hx hx2] at this
  cases this
/-- Two that do not depend may change places. -/
theorem swapC {x y : Cd} (hx : okC x = true) (hy : okC y = true) (hd : depB x y = false) {s s1 s2 : List Int × List Int} (h1 : stepC s x = some s1) (h2 : stepC s1 y = some s2) : ∃ t, stepC s y = some t ∧ stepC t x = some s2 := by
  obtain ⟨⟨hx0, hx23⟩, hxd, hxb⟩ := okC_low hx
  obtain ⟨⟨hy0, hy23⟩, hyd, hyb⟩ := okC_low hy
  obtain ⟨d1, d2, d3, d4⟩ := depB_no hd
  obtain ⟨b1, c1⟩ := stepC_cases h1
  obtain ⟨b2, c2⟩ := stepC_cases h2
  obtain ⟨g, m⟩ := s
  rcases c1 with ⟨o1, rfl⟩ | ⟨o1, rfl⟩
  · rcases c2 with ⟨o2, rfl⟩ | ⟨o2, rfl⟩
    · have := d1 (memB_of (by omega) hx23) (memB_of (by omega) hy23)
      rw [stB_of o1 hx23] at this
      cases this
    · have hm := fM_of_st o1 hx23 (fun c => by
        have := d1 (memB_of (by omega) hx23) c
        rw [Bool.or_eq_false_iff] at this
        exact this.1)
      have hu := d3 (fD_of hy0 o2)
      have h0 := hyd (by omega)
      simp only at b1 b2 ⊢
      rw [badC_mem hm] at b2
      refine ⟨_, stepC_rg b2 o2, ?_⟩
      rw [stepC_st (by simp only; rw [badC_set h0 hxb hu]; exact b1) o1]
      simp only
      rw [memC_set h0 hxb hu, valC_mem hm]
  · have hu := d2 (fD_of hx0 o1)
    have h0 := hxd (by omega)
    rcases c2 with ⟨o2, rfl⟩ | ⟨o2, rfl⟩
    · have hm := fM_of_st o2 hy23 (fun c => by
        have := d1 c (memB_of (by omega) hy23)
        rw [Bool.or_eq_false_iff] at this
        exact this.2)
      simp only at b1 b2 ⊢
      rw [badC_set h0 hyb hu] at b2
      refine ⟨_, stepC_st b2 o2, ?_⟩
      rw [stepC_rg (by simp only; rw [badC_mem hm]; exact b1) o1]
      simp only
      rw [valC_mem hm, memC_set h0 hyb hu]
    · have hv := d3 (fD_of hy0 o2)
      have h00 := hyd (by omega)
      have hne := d4 (fD_of hx0 o1) (fD_of hy0 o2)
      simp only at b1 b2 ⊢
      rw [badC_set h0 hyb hu] at b2
      refine ⟨_, stepC_rg b2 o2, ?_⟩
      rw [stepC_rg (by simp only; rw [badC_set h00 hxb hv]; exact b1) o1]
      simp only
      rw [valC_set h00 hxb hv, valC_set h0 hyb hu, List.set_comm _ _ (by omega)]
/-- A list in another order: each time one is taken that depends on none before it. -/
inductive Reord : List Cd → List Cd → Prop where
  | nil : Reord [] []
  | cons {a b m : List Cd} {x : Cd} : (∀ y ∈ a, depB y x = false) → Reord (a ++ b) m → Reord (a ++ x :: b) (x :: m)
theorem moveC {x : Cd} (hx : okC x = true) : ∀ (a b : List Cd) (s t : List Int × List Int), (∀ y ∈ a, okC y = true) → (∀ y ∈ a, depB y x = false) → foldC (a ++ x :: b) s = some t → foldC (x :: (a ++ b)) s = some t
  | [], _, _, _, _, _, h => h
  | y :: a, b, s, t, ho, hd, h => by
    rw [List.cons_append] at h ⊢
    cases h1 : stepC s y with
    | none => rw [foldC_none h1] at h; cases h
    | some s1 =>
      rw [foldC_some h1] at h
      have h2 := moveC hx a b s1 t (fun z hz => ho z (List.mem_cons_of_mem _ hz)) (fun z hz => hd z (List.mem_cons_of_mem _ hz)) h
      cases h3 : stepC s1 x with
      | none => rw [foldC_none h3] at h2; cases h2
      | some s2 =>
        rw [foldC_some h3] at h2
        obtain ⟨u, e1, e2⟩ := swapC (ho y List.mem_cons_self) hx (hd y List.mem_cons_self) h1 h3
        rw [foldC_some e1, foldC_some e2]
        exact h2
theorem reordC {l m : List Cd} (h : Reord l m) : ∀ (s t : List Int × List Int), (∀ y ∈ l, okC y = true) → foldC l s = some t → foldC m s = some t := by
  induction h with
  | nil => exact fun _ _ _ h => h
  | @cons a b m x hd _ ih =>
    intro s t ho h
    have h2 := moveC (ho x (by simp)) a b s t (fun z hz => ho z (by simp [hz])) hd h
    cases h1 : stepC s x with
    | none => rw [foldC_none h1] at h2; cases h2
    | some u =>
      rw [foldC_some h1] at h2 ⊢
      exact ih u t (fun z hz => ho z (by
        rcases List.mem_append.1 hz with c | c
        · exact List.mem_append.2 (.inl c)
        · exact List.mem_append.2 (.inr (List.mem_cons_of_mem _ c)))) h2
theorem reord_of (l : List Cd) : ∀ (order ks : List Int), ks.Pairwise (fun a b => a < b) → ks.Perm order → order.Pairwise (fun a b => b < a → depB (atC l b.toNat) (atC l a.toNat) = false) → Reord (ks.map fun k => atC l k.toNat) (order.map fun k => atC l k.toNat)
  | [], ks, _, hp, _ => by
    have : ks = [] := hp.eq_nil
    subst this
    exact .nil
  | o :: rest, ks, hs, hp, hi => by
    have hm : o ∈ ks := hp.mem_iff.2 List.mem_cons_self
    obtain ⟨a, b, rfl⟩ := List.append_of_mem hm
    have hp2 : (a ++ b).Perm rest := (List.perm_middle.symm.trans hp).cons_inv
    rw [List.pairwise_append] at hs
    obtain ⟨hs1, hs2, hs3⟩ := hs
    rw [List.pairwise_cons] at hi hs2
    rw [List.map_append, List.map_cons, List.map_cons]
    refine .cons ?_ ?_
    · intro y hy
      obtain ⟨k, hk, rfl⟩ := List.mem_map.1 hy
      exact hi.1 k (hp2.mem_iff.1 (List.mem_append.2 (.inl hk))) (hs3 k hk o List.mem_cons_self)
    · rw [← List.map_append]
      exact reord_of l rest (a ++ b) (List.pairwise_append.2 ⟨hs1, hs2.2, fun x hx y hy => hs3 x hx y (List.mem_cons_of_mem _ hy)⟩) hp2 hi.2
theorem iota_map (l : List Cd) : (iota l.length).map (fun k => atC l k.toNat) = l := by
  unfold iota
  rw [List.map_map]
  apply List.ext_getElem
  · simp
  · intro i h1 h2
    simp only [List.getElem_map, List.getElem_range, Function.comp, Int.toNat_natCast]
    exact atC_get h2
theorem reord_apply {l : List Cd} {order : List Int} (hp : permO l.length order) (h : behindN l order l.length = true) : Reord l (applyL l order) := by
  rw [behind_ord hp] at h
  unfold ordOK at h
  rw [List.all_eq_true] at h
  have hq := reord_of l order (iota l.length) (iota_lt _) (by rw [← hp.2]; exact List.mergeSort_perm _ _) (by
    rw [List.pairwise_iff_getElem]
    intro i j hi hj hij hlt
    have h1 := h i (List.mem_range.2 hi)
    unfold rowOK at h1
    rw [List.all_eq_true] at h1
    have h2 := h1 j (List.mem_range.2 hj)
    rw [decide_eq_true hij] at h2
    simp only [Bool.not_true, Bool.false_or] at h2
    unfold pairOK at h2
    rw [getD_get hi, getD_get hj, decide_eq_true hlt] at h2
    simpa using h2)
  rw [iota_map] at hq
  exact hq
theorem sameC {l : List Cd} {order : List Int} (hok : ∀ y ∈ l, okC y = true) (hp : permO l.length order) (h : behindN l order l.length = true) {s t : List Int × List Int} (hf : foldC l s = some t) : foldC (applyL l order) s = some t :=
  reordC (reord_apply hp h) s t hok hf
/-- What the machine does at one of them. -/
theorem stepM_on {s : Mach} {x : Cd} {n : Nat} (hx : okC x = true) {t : List Int × List Int} (h : stepC (s.rg, s.mem) x = some t) : ∃ tc, stepM s x 0 0 n = .on ⟨t.1, t.2, s.blk, s.pc + 1, tc⟩ := by
  obtain ⟨⟨h0, h23⟩, _, _⟩ := okC_low hx
  obtain ⟨b, c⟩ := stepC_cases h
  have hA : opA s x = rgA s.rg x := rfl
  have hB : opB s x = rgB s.rg x := rfl
  have hP : plc s x = plcC s.rg x := rfl
  unfold badC at b
  by_cases hm : fM x.op = true
  · rw [if_pos hm] at b
    have hf := of_decide_eq_false b
    have hm2 := hm
    unfold fM at hm2
    rw [decide_eq_true_eq] at hm2
    rcases c with ⟨o, rfl⟩ | ⟨o, rfl⟩
    · exact ⟨_, step_st ⟨o, h23⟩ hf⟩
    · refine ⟨tchB s x 0 0, ?_⟩
      simp only [valC, if_pos hm]
      exact step_ld ⟨hm2.1, by omega⟩ hf
  · rw [if_neg hm] at b
    have hm2 : ¬ (18 ≤ x.op ∧ x.op ≤ 23) := fun e => hm (fM_yes e)
    rcases c with ⟨o, rfl⟩ | ⟨o, rfl⟩
    · omega
    · simp only [valC, if_neg hm]
      by_cases e0 : x.op = 0
      · rw [if_pos e0]; exact ⟨_, step_li e0⟩
      · rw [if_neg e0]
        by_cases e1 : x.op = 1
        · rw [if_pos e1]; exact ⟨_, step_mv e1⟩
        · rw [if_neg e1]; exact ⟨_, step_op ⟨by omega, by omega⟩ b⟩
theorem stepM_no {s : Mach} {x : Cd} {n : Nat} (hx : okC x = true) (h : stepC (s.rg, s.mem) x = none) : ∃ m e k t, stepM s x 0 0 n = .out m e k t ∧ e ≠ 1 := by
  obtain ⟨⟨h0, h23⟩, _, _⟩ := okC_low hx
  have hb : badC s.rg s.mem x = true := by
    unfold stepC at h
    split at h
    · rename_i c; exact c
    · split at h <;> cases h
  unfold badC at hb
  by_cases hm : fM x.op = true
  · rw [if_pos hm] at hb
    have hf := of_decide_eq_true hb
    unfold fM at hm
    rw [decide_eq_true_eq] at hm
    exact ⟨_, _, _, _, step_flt hm hf, by decide⟩
  · rw [if_neg hm] at hb
    have hm2 : ¬ (18 ≤ x.op ∧ x.op ≤ 23) := fun e => hm (fM_yes e)
    have hge : 2 ≤ x.op := by
      by_cases c : 2 ≤ x.op
      · exact c
      · unfold brkF at hb
        rw [if_neg (by omega), if_neg (by omega)] at hb
        cases hb
    exact ⟨_, _, _, _, step_brk ⟨hge, by omega⟩ hb, by decide⟩
/-- A stretch with a halt behind it, from its k-th instruction on. -/
theorem run_from (l : List Cd) (hok : ∀ y ∈ l, okC y = true) : ∀ (d k : Nat) (g m : List Int) (tc : Bool) (n f : Nat), k + d = l.length → d < f →
    (∀ t, foldC (l.drop k) (g, m) = some t → (runM [l ++ [haltC]] 0 0 f ⟨g, m, 0, k, tc⟩ n).1 = t.2 ∧ (runM [l ++ [haltC]] 0 0 f ⟨g, m, 0, k, tc⟩ n).2.1 = 1) ∧ (foldC (l.drop k) (g, m) = none → (runM [l ++ [haltC]] 0 0 f ⟨g, m, 0, k, tc⟩ n).2.1 ≠ 1)
  | 0, k, g, m, tc, n, f, hk, hf => by
    obtain ⟨f, rfl⟩ : ∃ f', f = f' + 1 := ⟨f - 1, by omega⟩
    have hx : atC (atB [l ++ [haltC]] 0) k = haltC := by
      show atC (l ++ [haltC]) k = haltC
      unfold atC
      rw [List.getD_eq_getElem?_getD, List.getElem?_append_right (by omega), show k - l.length = 0 by omega]
      rfl
    have hs : stepM ⟨g, m, 0, k, tc⟩ (atC (atB [l ++ [haltC]] 0) k) 0 0 n = .out m 1 (n + 1) tc := step_halt (s := ⟨g, m, 0, k, tc⟩) (by rw [hx]; rfl)
    have hr := runM_out (P := [l ++ [haltC]]) (f := f) (s := ⟨g, m, 0, k, tc⟩) hs
    rw [hr, List.drop_eq_nil_of_le (by omega)]
    exact ⟨fun t h => by cases h; exact ⟨rfl, rfl⟩, fun h => by cases h⟩
  | d + 1, k, g, m, tc, n, f, hk, hf => by
    obtain ⟨f, rfl⟩ : ∃ f', f = f' + 1 := ⟨f - 1, by omega⟩
    have hkl : k < l.length := by omega
    have hx : atC (atB [l ++ [haltC]] 0) k = atC l k := by
      show atC (l ++ [haltC]) k = _
      exact atC_app hkl
    have ho := hok _ (atC_mem hkl)
    rw [List.drop_eq_getElem_cons hkl, ← atC_get hkl]
    cases hc : stepC (g, m) (atC l k) with
    | none =>
      obtain ⟨m', e, k', t, hs, he⟩ := stepM_no (s := ⟨g, m, 0, k, tc⟩) (n := n) ho hc
      rw [← hx] at hs
      have hr := runM_out (P := [l ++ [haltC]]) (f := f) (s := ⟨g, m, 0, k, tc⟩) hs
      rw [hr, foldC_none hc]
      exact ⟨fun t h => (by cases h), fun _ => he⟩
    | some u =>
      obtain ⟨tc', hs⟩ := stepM_on (s := ⟨g, m, 0, k, tc⟩) (n := n) ho hc
      rw [← hx] at hs
      have hr := runM_on (P := [l ++ [haltC]]) (f := f) (s := ⟨g, m, 0, k, tc⟩) hs
      rw [hr, foldC_some hc]
      exact run_from l hok d (k + 1) u.1 u.2 tc' (n + 1) f (by omega) (by omega)
/-- The run of a stretch. -/
def runL (l : List Cd) (mem : List Int) : List Int × Int × Nat × Bool := runM [l ++ [haltC]] 0 0 100 ⟨List.replicate 200 0, mem, 0, 0, false⟩ 0
theorem runL_same {l : List Cd} {order : List Int} {mem : List Int} (hz : tErr l = 0) (hp : permO l.length order) (h : behindN l order l.length = true) (he : (runL l mem).2.1 = 1) : (runL (applyL l order) mem).2.1 = 1 ∧ (runL (applyL l order) mem).1 = (runL l mem).1 := by
  obtain ⟨h40, hok⟩ := tErr_zero hz
  have hok1 : ∀ y ∈ l, okC y = true := fun y hy => by
    obtain ⟨k, hk, rfl⟩ := mem_atC hy
    exact hok k hk
  have hok2 : ∀ y ∈ applyL l order, okC y = true := fun y hy => by
    unfold applyL at hy
    obtain ⟨k, hk, rfl⟩ := List.mem_map.1 hy
    have := (permO_mem hp).1 hk
    exact hok k.toNat (by omega)
  have hl2 := applyL_len l order
  have hl3 := hp.1
  obtain ⟨a1, a2⟩ := run_from l hok1 l.length 0 (List.replicate 200 0) mem false 0 100 (by omega) (by omega)
  obtain ⟨b1, _⟩ := run_from (applyL l order) hok2 (applyL l order).length 0 (List.replicate 200 0) mem false 0 100 (by omega) (by omega)
  rw [List.drop_zero] at a1 a2 b1
  cases hc : foldC l (List.replicate 200 0, mem) with
  | none => exact absurd he (a2 hc)
  | some t =>
    have e1 := a1 t hc
    have e2 := b1 t (sameC hok1 hp h hc)
    exact ⟨e2.2, by rw [show (runL (applyL l order) mem).1 = t.2 from e2.1]; exact e1.1.symm⟩
end Go.Proofs.Ytccpjfppkahbmaa
