/- The law FlowParents. -/
import Derived.Test.YtmljmmnofhhheaaL5
import Derived.Test.YtmljmmnofhhheaaWX
namespace Go.Proofs.Ytmljmmnofhhheaa
open Go.RowKit

theorem dom_iff {g : Gr} {a b : Nat} : domB g a b = true ↔ a = b ∨ ¬ ReachB g (a : Nat) 0 b := by
  unfold domB
  rw [Bool.or_eq_true, decide_eq_true_iff, Bool.not_eq_true', ← Bool.not_eq_true, rs_iff]
theorem dom_refl (g : Gr) (a : Nat) : domB g a a = true := dom_iff.2 (.inl rfl)
theorem dom_trans {g : Gr} {c a b : Nat} (h : domB g c a = true) (k : domB g a b = true) : domB g c b = true := by
  by_cases hab : a = b
  · subst hab; exact h
  by_cases hca : c = a
  · subst hca; exact k
  rw [dom_iff] at *
  refine .inr fun hr => ?_
  have hk : ¬ ReachB g (a : Nat) 0 b := by rcases k with c | c; exact absurd c hab; exact c
  have hh : ¬ ReachB g (c : Nat) 0 a := by rcases h with c | c; exact absurd c hca; exact c
  have : ReachB g (a : Nat) 0 b ∨ ReachB g (c : Nat) 0 a := by
    refine hr.ind (fun u => ReachB g (a : Nat) 0 u ∨ ReachB g (c : Nat) 0 a) (fun h0 => ?_) (fun u x hu hP hx hb => ?_)
    · by_cases h0a : 0 = a
      · subst h0a; exact .inr (.here h0)
      · exact .inl (.here (by omega))
    · rcases hP with hP | hP
      · by_cases hxa : x = a
        · subst hxa; exact .inr (hu.step hx hb)
        · exact .inl (hP.step hx (by omega))
      · exact .inr hP
  rcases this with c | c
  · exact hk c
  · exact hh c
theorem dom_anti {g : Gr} {a b : Nat} (hb : ReachB g (-1) 0 b) (hne : a ≠ b) (h : domB g a b = true) (k : domB g b a = true) : False := by
  have h1 : ¬ ReachB g (a : Nat) 0 b := by rcases dom_iff.1 h with c | c; exact absurd c hne; exact c
  have h2 : ¬ ReachB g (b : Nat) 0 a := by rcases dom_iff.1 k with c | c; exact absurd c.symm hne; exact c
  have : ReachB g (a : Nat) 0 b ∧ ReachB g (b : Nat) 0 b := by
    refine hb.ind (fun u => ReachB g (a : Nat) 0 u ∧ ReachB g (b : Nat) 0 u) (fun _ => ?_) (fun u x hu hP hx _ => ?_)
    · refine ⟨.here fun e => ?_, .here fun e => ?_⟩
      · exact h2 (by obtain rfl : a = 0 := (by omega); exact .here (by omega))
      · exact h1 (by obtain rfl : b = 0 := (by omega); exact .here (by omega))
    · refine ⟨hP.1.step hx fun e => ?_, hP.2.step hx fun e => ?_⟩
      · obtain rfl : x = a := by omega
        exact h2 (hP.2.step hx (by omega))
      · obtain rfl : x = b := by omega
        exact h1 (hP.1.step hx (by omega))
  exact h1 this.1
theorem dom_chain {g : Gr} {a b c : Nat} (hb : ReachB g (-1) 0 b) (h : domB g a b = true) (k : domB g c b = true) (ha : a ≠ b) (hc : c ≠ b) : domB g a c = true ∨ domB g c a = true := by
  have h1 : ¬ ReachB g (a : Nat) 0 b := by rcases dom_iff.1 h with d | d; exact absurd d ha; exact d
  have h2 : ¬ ReachB g (c : Nat) 0 b := by rcases dom_iff.1 k with d | d; exact absurd d hc; exact d
  apply Classical.byContradiction
  intro hn
  rw [not_or, dom_iff, dom_iff] at hn
  obtain ⟨n1, n2⟩ := hn
  rw [not_or, Classical.not_not] at n1 n2
  have : ReachB g (a : Nat) 0 b ∨ ReachB g (c : Nat) 0 b := by
    refine hb.ind (fun u => ReachB g (a : Nat) 0 u ∨ ReachB g (c : Nat) 0 u) (fun _ => .inl (.here n1.2.start)) (fun u x hu hP hx _ => ?_)
    rcases hP with hP | hP
    · by_cases e : x = a
      · subst e; exact .inr n2.2
      · exact .inl (hP.step hx (by omega))
    · by_cases e : x = c
      · subst e; exact .inl n1.2
      · exact .inr (hP.step hx (by omega))
  rcases this with d | d
  · exact h1 d
  · exact h2 d
theorem last_of {R : Nat → Nat → Bool} (htr : ∀ x y z, R x y = true → R y z = true → R x z = true) (hrefl : ∀ x, R x x = true) : ∀ l : List Nat, l ≠ [] → (∀ x ∈ l, ∀ y ∈ l, R x y = true ∨ R y x = true) → ∃ m ∈ l, ∀ c ∈ l, R c m = true
  | [], h, _ => absurd rfl h
  | [x], _, _ => ⟨x, by simp, fun c hc => by obtain rfl : c = x := (by simpa using hc); exact hrefl c⟩
  | x :: y :: l, _, ht => by
    obtain ⟨m, hm, hall⟩ := last_of htr hrefl (y :: l) (by simp) fun a ha b hb => ht a (by simp [ha]) b (by simp [hb])
    rcases ht x (by simp) m (List.mem_cons_of_mem _ hm) with c | c
    · refine ⟨m, List.mem_cons_of_mem _ hm, fun d hd => ?_⟩
      rcases List.mem_cons.1 hd with rfl | hd
      · exact c
      · exact hall d hd
    · refine ⟨x, by simp, fun d hd => ?_⟩
      rcases List.mem_cons.1 hd with rfl | hd
      · exact hrefl d
      · exact htr _ _ _ (hall d hd) c
/-- How many nodes are above one. -/
noncomputable def aboveN (g : Gr) (b : Nat) : Nat := ((setL (rs g (-1) 0)).filter (aboveB g b)).length
theorem above_iff {g : Gr} {a b : Nat} : aboveB g b a = true ↔ a ≠ b ∧ domB g a b = true := by
  unfold aboveB; rw [Bool.and_eq_true, decide_eq_true_iff]
theorem parent_is {g : Gr} {a b : Nat} (h : parentO g b = some a) : rs g (-1) 0 a = true ∧ aboveB g b a = true := by
  unfold parentO at h
  have h1 := List.mem_of_find?_eq_some h
  have h2 := List.find?_some h
  exact ⟨(setL_mem.1 h1).2, (Bool.and_eq_true_iff.1 h2).1⟩
theorem parent_not {g : Gr} {b : Nat} (hb : rs g (-1) 0 b = true) (h : parentO g b = none) : b = 0 := by
  apply Classical.byContradiction
  intro hb0
  have h0 : aboveB g b 0 = true := above_iff.2 ⟨fun e => hb0 e.symm, dom_iff.2 (.inr fun c => absurd rfl c.start)⟩
  have hr0 : (0 : Nat) ∈ setL (rs g (-1) 0) := setL_mem.2 ⟨by omega, rs_iff.2 (.here (not_but 0))⟩
  obtain ⟨m, hm, hall⟩ := last_of (R := domB g) (fun _ _ _ => dom_trans) (dom_refl g) ((setL (rs g (-1) 0)).filter (aboveB g b)) (List.ne_nil_of_mem (List.mem_filter.2 ⟨hr0, h0⟩)) fun x hx y hy => by
    obtain ⟨hx1, hx2⟩ := above_iff.1 (List.mem_filter.1 hx).2
    obtain ⟨hy1, hy2⟩ := above_iff.1 (List.mem_filter.1 hy).2
    exact dom_chain (rs_iff.1 hb) hx2 hy2 hx1 hy1
  obtain ⟨hm1, hm2⟩ := List.mem_filter.1 hm
  unfold parentO at h
  have := List.find?_eq_none.1 h m hm1
  apply this
  rw [hm2, Bool.true_and]
  unfold lastB
  rw [Bool.not_eq_true', List.any_eq_false]
  intro c hc
  rw [Bool.and_eq_true, not_and, Bool.not_eq_true', Bool.not_eq_false]
  intro hac
  exact hall c (List.mem_filter.2 ⟨hc, hac⟩)
theorem parent_less {g : Gr} {a b : Nat} (hb : rs g (-1) 0 b = true) (h : parentO g b = some a) : aboveN g a < aboveN g b := by
  obtain ⟨hra, hab⟩ := parent_is h
  obtain ⟨hne, hd⟩ := above_iff.1 hab
  unfold aboveN
  rw [← List.countP_eq_length_filter, ← List.countP_eq_length_filter]
  have ha10 : a < 10 := by
    unfold parentO at h
    exact (setL_mem.1 (List.mem_of_find?_eq_some h)).1
  refine countP_lt (v := a) (fun c _ hc => ?_) (setL_mem.2 ⟨ha10, hra⟩) hab ?_
  · obtain ⟨hc1, hc2⟩ := above_iff.1 hc
    refine above_iff.2 ⟨fun e => ?_, dom_trans hc2 hd⟩
    subst e
    exact dom_anti (rs_iff.1 hra) (fun e => hne e.symm) hc2 hd
  · rw [← Bool.not_eq_true, above_iff]
    exact fun c => c.1 rfl
theorem above_len {g : Gr} (ok : OkG g) (b : Nat) : aboveN g b ≤ g.length := by
  unfold aboveN
  refine Nat.le_trans (List.length_filter_le _ _) ?_
  rw [← setUpto_ten (n := g.length) (fun j hj => rs_out ok ok.pos hj) ok.ten]
  exact setUpto_len _ _
theorem there_of {g : List (List Int)} {l : List Nat} (hv : validE g = 0) (h : ∀ x ∈ l, rs (gN g) (-1) 0 x = true) : thereE g (ints l) = 0 := by
  have ok := valid_ok hv
  have hn : nodeE g (ints l) = 0 := by
    unfold nodeE
    rw [if_pos hv, if_neg]
    rw [Bool.not_eq_true, List.any_eq_false]
    intro x hx
    obtain ⟨n, hn, rfl⟩ := List.mem_map.1 hx
    have := (rs_iff.1 (h n hn)).lt ok.fits ok.pos
    rw [gN_len] at this
    unfold offB
    rw [Bool.or_eq_true, decide_eq_true_iff, decide_eq_true_iff]
    omega
  unfold thereE
  rw [if_pos hn, if_neg]
  rw [Bool.not_eq_true, List.any_eq_false]
  intro x hx
  obtain ⟨n, hn, rfl⟩ := List.mem_map.1 hx
  rw [Int.toNat_natCast, h n hn]
  simp
theorem parent_vals {g : List (List Int)} {b : Nat} (hv : validE g = 0) (hb : rs (gN g) (-1) 0 b = true) : thereE g [(b : Int)] = 0 ∧ parentV g b = (parentO (gN g) b).getD 0 ∧ parentIs g b = (parentO (gN g) b).isSome := by
  have h : thereE g [(b : Int)] = 0 := there_of (l := [b]) hv fun x hx => by obtain rfl : x = b := (by simpa using hx); exact hb
  refine ⟨h, ?_, ?_⟩
  · unfold parentV; rw [if_pos h, Int.toNat_natCast]
  · unfold parentIs; rw [if_pos h, Int.toNat_natCast]
theorem dom_vals {g : List (List Int)} {a b : Nat} (hv : validE g = 0) (ha : rs (gN g) (-1) 0 a = true) (hb : rs (gN g) (-1) 0 b = true) (hd : domB (gN g) a b = true) : thereE g [(a : Int), (b : Int)] = 0 ∧ domR g a b = true := by
  have h : thereE g [(a : Int), (b : Int)] = 0 := there_of (l := [a, b]) hv fun x hx => by
    rcases List.mem_cons.1 hx with rfl | hx
    · exact ha
    · obtain rfl : x = b := by simpa using hx
      exact hb
  refine ⟨h, ?_⟩
  unfold domR
  rw [if_pos h, Int.toNat_natCast, Int.toNat_natCast]
  exact hd

set_option maxRecDepth 100000 in
set_option maxHeartbeats 4000000 in
theorem flowParents_any (g : List (List Int)) (ga : Option Addr) (cap : Nat) (b : Int) (w : World) (hin : RowsIn w ga g) (hl : g.length ≤ maxLen) (hr : ∀ k, k < g.length → (g.getD k []).length ≤ maxLen) :
    Calls Try.prog 9 #[.slice ga g.length cap, .int .i64 b] w fun e w' => e = .returned (.bool true) ∧ Below w.heap.size w w' := by
  have HL := Lib.hid (long_any g ga cap w hin hl hr)
  cases hlong : longB g
  · rw [hlong] at HL
    have hs := short_of_long hlong
    have HP1 := Lib.hid (Parent_any g ga cap b w hin hs)
    have HP2 : Hid (∀ w', Below w.heap.size w w' → Calls Try.prog 35 #[.slice ga g.length cap, .int .i64 b] w' (ParentPost (parentV g b) (parentIs g b) (thereE g [b]) w')) := Lib.hid fun w' hb => rParent_any g ga cap b w' (hin.below hb) hs
    have HK := Lib.hid known_any
    by_cases hmain : thereE g [b] = 0
    · have hpr := there_parts hmain
      have hv := hpr.1
      have hgl : g.length ≤ 10 := by have := (valid_ok hv).ten; rwa [gN_len] at this
      have hbp := hpr.2.1 b (by simp)
      have hrb := hpr.2.2 b (by simp)
      obtain ⟨b0, rfl⟩ := Int.eq_ofNat_of_zero_le hbp.1
      have HP : Hid (∀ w' (x : Nat), rs (gN g) (-1) 0 x = true → Below w.heap.size w w' → Calls Try.prog 34 #[.slice ga g.length cap, .int .i64 x] w' (ParentPost ((parentO (gN g) x).getD 0) (parentO (gN g) x).isSome 0 w')) := Lib.hid fun w' x hx hb => by
        have := Parent_any g ga cap x w' (hin.below hb) hs
        obtain ⟨e1, e2, e3⟩ := parent_vals hv hx
        rwa [e1, e2, e3] at this
      have HD : Hid (∀ w' (x y : Nat), rs (gN g) (-1) 0 y = true → parentO (gN g) y = some x → Below w.heap.size w w' → Calls Try.prog 29 #[.slice ga g.length cap, .int .i64 x, .int .i64 y] w' fun e w'' => e = .returned (.tuple #[.bool true, .int .i64 0]) ∧ Below w'.heap.size w' w'') := Lib.hid fun w' x y hy hp hb => by
        have := Dominates_any g ga cap x y w' (hin.below hb) hs
        obtain ⟨h1, h2⟩ := parent_is hp
        obtain ⟨e1, e2⟩ := dom_vals hv h1 hy (above_iff.1 h2).2
        rwa [e1, e2] at this
      have hrb0 : rs (gN g) (-1) 0 b0 = true := by simpa using hrb
      have HA : Hid (aboveN (gN g) b0 ≤ g.length) := Lib.hid (by have := above_len (valid_ok hv) b0; rwa [gN_len] at this)
      rw [hmain] at HP1 HP2
      have HR := Lib.hid hrb0
      clear hin hl hr hs hlong hpr hv hmain hrb hrb0 hbp
      generalize gN g = G at *
      generalize parentV g b0 = PV at *
      generalize parentIs g b0 = PI at *
      have hPV : ((PV : Int) == (PV : Int)) = true := by simp
      cases PI
      all_goals
        go_enter Try.func9, Try.ntmps9
        go_wp2_with fail
        refine HL.out.mono ?_; rintro e w1 ⟨rfl, rfl⟩
        go_wp2_with fail
        refine HP1.out.mono ?_; rintro e w2 ⟨rfl, hb2⟩
        have HBa := Lib.hid hb2; clear hb2
        go_wp2_with fail
        refine (HP2.out _ HBa.out).mono ?_; rintro e w3 ⟨rfl, hb3⟩
        have HBb := Lib.hid (HBa.out.trans (hb3.mono HBa.out.size)); clear hb3
        go_wp2_with fail
        go_loopw [1, 11] (fun b i wr => ∃ x k : Nat, b = .int .i64 x ∧ i = .int .i64 k ∧ rs G (-1) 0 x = true ∧ aboveN G x + k ≤ g.length ∧ Below w.heap.size w wr) (fun _ i _ => g.length + 1 - (intOf i).toNat)
        case atStart => exact ⟨b0, 0, rfl, rfl, HR.out, HA.out, HBb.out⟩
        case round =>
          obtain ⟨x, k, rfl, rfl, hx, hm, hb⟩ := hrel
          have hkg : (k : Int) ≤ (g.length : Int) := by omega
          have HC := Lib.hid (HP.out wr x hx hb)
          have HBw := Lib.hid hb; have HX := Lib.hid hx; have HM := Lib.hid hm
          clear hb hx hm
          cases ho : parentO G x with
          | none =>
            rw [ho] at HC
            have hx0 := parent_not HX.out ho
            clear ho
            subst hx0
            have e0 : (((0 : Nat) : Int) == 0) = true := rfl
            go_wp2_with fail
            refine HC.out.mono ?_; rintro e w4 ⟨rfl, hb4⟩
            have HBc := Lib.hid (HBw.out.trans (hb4.mono HBw.out.size)); clear hb4
            go_wp2_with fail
            refine (HK.out _).mono ?_; rintro e w5 ⟨rfl, hb5⟩
            go_wp2_with fail
            go_ret
            exact ⟨rfl, HBc.out.trans (hb5.mono HBc.out.size)⟩
          | some y =>
            rw [ho] at HC
            have HO := Lib.hid ho
            clear ho
            have hC : Hid (Calls Try.prog 34 #[.slice ga g.length cap, .int .i64 x] wr (ParentPost y true 0 wr)) := HC
            clear HC
            go_wp2_with fail
            refine hC.out.mono ?_; rintro e w4 ⟨rfl, hb4⟩
            have HBc := Lib.hid (HBw.out.trans (hb4.mono HBw.out.size)); clear hb4
            go_wp2_with fail
            refine (HD.out _ y x HX.out HO.out HBc.out).mono ?_; rintro e w5 ⟨rfl, hb5⟩
            have HBd := Lib.hid (HBc.out.trans (hb5.mono HBc.out.size)); clear hb5
            go_wp2_with fail
            go_roundw
            case rel => exact ⟨y, k + 1, rfl, by go_num, (parent_is HO.out).1, by have := parent_less HX.out HO.out; have := HM.out; omega, HBd.out⟩
            case measure => have := HM.out; simp [intOf]; omega
    · clear hin hl hr hs hlong
      generalize parentV g b = PV at *
      generalize parentIs g b = PI at *
      have hPV : ((PV : Int) == (PV : Int)) = true := by simp
      generalize thereE g [b] = E at *
      have hEE : (E == E) = true := by simp
      have hE : (E == 0) = false := by rw [beq_eq_false_iff_ne]; exact hmain
      cases PI
      all_goals
        go_enter Try.func9, Try.ntmps9
        go_wp2_with fail
        refine HL.out.mono ?_; rintro e w1 ⟨rfl, rfl⟩
        go_wp2_with fail
        refine HP1.out.mono ?_; rintro e w2 ⟨rfl, hb2⟩
        have HBa := Lib.hid hb2; clear hb2
        go_wp2_with fail
        refine (HP2.out _ HBa.out).mono ?_; rintro e w3 ⟨rfl, hb3⟩
        have HBb := Lib.hid (HBa.out.trans (hb3.mono HBa.out.size)); clear hb3
        go_wp2_with fail
        refine (HK.out _).mono ?_; rintro e w7 ⟨rfl, hb7⟩
        go_wp2_with fail
        go_ret
        exact ⟨rfl, HBb.out.trans (hb7.mono HBb.out.size)⟩
  · rw [hlong] at HL
    have HK := Lib.hid known_any
    clear hin hl hr hlong
    go_enter Try.func9, Try.ntmps9
    go_wp2_with fail
    refine HL.out.mono ?_; rintro e w1 ⟨rfl, rfl⟩
    go_wp2_with fail
    refine (HK.out _).mono ?_; rintro e w2 ⟨rfl, hb2⟩
    go_wp2_with fail
    go_ret
    exact ⟨rfl, hb2⟩
end Go.Proofs.Ytmljmmnofhhheaa
