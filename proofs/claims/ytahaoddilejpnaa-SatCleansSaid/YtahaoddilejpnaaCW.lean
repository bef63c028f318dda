/- ordered of the document. -/
import Derived.Test.YtahaoddilejpnaaCV
namespace Go.Proofs.Ytahaoddilejpnaa
open Go.RowKit

theorem ord_succ (c : List Int) (k : Nat) (hk : k < c.length) : ordL (c.take (k + 1)) = insI (c.getD k 0) (ordL (c.take k)) := by
  unfold ordL
  rw [List.take_succ_eq_append_getElem hk, List.foldl_append, List.getD_eq_getElem?_getD, List.getElem?_eq_getElem hk]; rfl
theorem ins_len (x : Int) (O : List Int) : (insI x O).length ≤ O.length + 1 := by
  unfold insI insG
  split
  · omega
  · rename_i h
    have := hole_len O (atG (fun a b : Int => a < b) x O) x
    unfold holeL at this
    omega
theorem ord_len (c : List Int) : ∀ k, k ≤ c.length → (ordL (c.take k)).length ≤ k
  | 0, _ => by simp [ordL]
  | k + 1, h => by
    rw [ord_succ c k (by omega)]
    have := ins_len (c.getD k 0) (ordL (c.take k))
    have := ord_len c k (by omega)
    omega
theorem getD_at {O : List Int} {i : Nat} (h : i < O.length) : O.getD i 0 = O[i] := by rw [List.getD_eq_getElem?_getD, List.getElem?_eq_getElem h]; rfl
theorem encI_hole (O : List Int) (k : Nat) (y : Int) : encI (holeL O k y) = holeL (encI O) k (.int .i64 y) := by unfold encI; rw [hole_map]
set_option maxRecDepth 100000 in
set_option maxHeartbeats 4000000 in
theorem ordered_any (c : List Int) (a : Option Addr) (cap : Nat) (w : World) (hin : IntsIn w a c) (hl : c.length ≤ 1000) :
    Calls Try.prog 57 #[.slice a c.length cap] w fun e w' => (∃ v, e = .returned v ∧ w'.ownsRow w.heap.size 3 1 v (ordL c).length (encI (ordL c))) ∧ Below w.heap.size w w' := by
  have HI := Lib.hid hin
  have HLen := Lib.hid (ord_len c)
  have HS := Lib.hid (ord_succ c)
  have HRes : Hid (ordL (c.take c.length) = ordL c) := Lib.hid (by rw [List.take_length])
  clear hin
  obtain ⟨i0, hi, ip0, ip1, ip2⟩ := info_parts Try.infoInt
  go_enter Try.func57, Try.ntmps57
  go_wp2_with fail
  go_loopw [3, 4] (fun z i wr => ∃ k : Nat, k ≤ c.length ∧ i = .int .i64 k ∧ wr.ownsRow w.heap.size 3 1 z (ordL (c.take k)).length (encI (ordL (c.take k))) ∧ Below w.heap.size w wr) (fun _ i _ => c.length - (intOf i).toNat)
  case atStart => exact ⟨0, Nat.zero_le _, rfl, owns_nil _ _ _ _, Below.refl _ _⟩
  case round =>
    obtain ⟨k, hk, rfl, hown, hb⟩ := hrel
    obtain ⟨va, vc, rfl⟩ := owns_shape hown
    have HO := Lib.hid hown; have HB := Lib.hid hb
    by_cases hlt : k < c.length
    · have hki : (k : Int) < (c.length : Int) := by omega
      have hk00 : (0 : Int) ≤ (k : Int) := by omega
      obtain ⟨b2, off2, rfl, hcx0⟩ := HI.out.below hb k hlt
      have HCx := Lib.hid hcx0
      have HC0 : Hid (w.cell? ⟨b2, off2 + k, none⟩ = some (.int .i64 (c.getD k 0))) := Lib.hid (by
        obtain ⟨b', o', e, hc⟩ := HI.out k hlt
        cases e; exact hc)
      have hon := HLen.out k hk
      have HSk := Lib.hid (HS.out k hlt)
      clear hown hb hcx0
      generalize hO1 : ordL (c.take (k + 1)) = O1 at *
      have HO1 := Lib.hid hO1; clear hO1
      generalize ordL (c.take k) = O at *
      generalize c.getD k 0 = x at *
      have hO1000 : O.length ≤ 1000 := by omega
      go_wp2_with fail
      go_loopw [5] (fun i ws => ∃ j : Nat, j ≤ O.length ∧ i = .int .i64 j ∧ Below wr.heap.size wr ws ∧ Hid (∀ i (h : i < O.length), i < j → O[i] < x)) (fun i _ => O.length - (intOf i).toNat)
      case atStart => exact ⟨0, Nat.zero_le _, rfl, Below.refl _ _, Lib.hid fun i h hij => absurd hij (Nat.not_lt_zero _)⟩
      case round =>
        obtain ⟨j, hj, rfl, hbs, HLt⟩ := hrel
        have hcx := keep HCx.out hbs
        have HBs := Lib.hid hbs
        have HOs := Lib.hid (owns_below HO.out hbs)
        by_cases hjO : j < O.length
        · have hji : (j : Int) < (O.length : Int) := by omega
          obtain ⟨g, c0, e0, _, _, _, _, hcell, hfree⟩ := owns_cells HOs.out (by omega)
          cases e0
          have hcO := hcell j _ (encI_get hjO)
          rw [getD_at hjO] at hcO
          have HE : Hid (O[j]? = some O[j]) := Lib.hid (List.getElem?_eq_getElem hjO)
          have HL1 : Hid (O[j] < x → ∀ i (h : i < O.length), i < j + 1 → O[i] < x) := Lib.hid fun h i hi hij => by
            by_cases e : i = j
            · subst e; exact h
            · exact HLt.out i hi (by omega)
          have HAt : Hid (¬ O[j] < x → atG (fun a b : Int => a < b) x O = j) := Lib.hid fun h => at_of (lt := fun a b : Int => a < b) HLt.out hj fun _ => h
          clear hcell hfree hbs
          generalize O[j] = y at *
          by_cases hyx : y < x
          · have hyd : decide (y < x) = true := decide_eq_true hyx
            have HYX := Lib.hid hyx
            go_wp2_with fail
            go_quiet (fail)
            go_wp2_with fail
            go_roundw
            case rel => exact ⟨j + 1, by omega, by go_num, below_drewN HBs.out _, Lib.hid (HL1.out HYX.out)⟩
            case measure => simp [intOf]; omega
          · have hyd : decide (y < x) = false := decide_eq_false hyx
            have HAj := Lib.hid (HAt.out hyx)
            have HEq : Hid (y = x → insI x O = O) := Lib.hid fun e => ins_there (lt := fun a b : Int => a < b) (by rw [HAj.out, HE.out, e])
            have HIns : Hid (¬ y = x → insI x O = holeL O j x) := Lib.hid fun e => by
              have := ins_hole (lt := fun a b : Int => a < b) (x := x) (O := O) (by rw [HAj.out, HE.out]; simpa using e)
              rw [HAj.out] at this
              exact this
            by_cases hxy : y = x
            · have hxb : (y == x) = true := beq_iff_eq.2 hxy
              have HI1 := Lib.hid (HEq.out hxy)
              have HXY := Lib.hid hxy
              clear hyx hxy
              go_wp2_with fail
              go_quiet (fail)
              go_wp2_with fail
              go_quiet (fail)
              go_wp2_with fail
              go_roundw
              case rel => exact ⟨k + 1, by omega, by go_num, by rw [HO1.out, HSk.out, HI1.out]; exact HOs.out, below_drewN (HB.out.trans (HBs.out.mono HB.out.size)) _⟩
              case measure => simp [intOf]; omega
            · have hxb : (y == x) = false := beq_eq_false_iff_ne.2 hxy
              have HI1 := Lib.hid (HIns.out hxy)
              clear hyx hxy
              go_wp2_with fail
              go_quiet (fail)
              go_wp2_with fail
              go_quiet (fail)
              generalize hwd : (World.drewN (World.drewN wr _) _) = wd
              have hbd : Below w.heap.size w wd := by rw [← hwd]; exact below_drewN (below_drewN (HB.out.trans (HBs.out.mono HB.out.size)) _) _
              have hod : wd.ownsRow w.heap.size 3 1 (.slice (some ⟨g, 0, none⟩) O.length vc) O.length (encI O) := by rw [← hwd]; exact HOs.out
              clear hwd
              have HN7 := Lib.hid (cell_one_at wd (.int .i64 0) 3)
              have HB8 := Lib.hid (hbd.alloc hbd.size (.cells #[.int .i64 0] 3))
              have HO7 := Lib.hid (hod.alloc (.cells #[.int .i64 0] 3))
              have HS63 : Hid (O.length + 1 ≤ maxLen) := Lib.hid (by unfold maxLen; omega)
              have HSb : Hid ((O.length + 1) * 8 ≤ 140737488355328) := Lib.hid (by omega)
              have HZ6 : Hid (w.heap.size ≤ (wd.alloc (.cells #[.int .i64 0] 3)).heap.size) := Lib.hid HB8.out.size
              clear hbd hod
              go_wp2_with (first | (at_builtin; refine wpList_append_own_at _ rfl _ _ 40 rfl w.heap.size 3 i0 (.int .i64 0) 1 8 Try.underlying40 hi ip0 ip1 ip2 rfl (by decide) _ _ _ rfl HO7.out ⟨wd.heap.size, 0, none⟩ 1 1 [.int .i64 0] rfl rfl HN7.out (one_int _) HS63.out HSb.out HZ6.out ?_; intro v9 w9 hown9 hgrow9 _ _; have HO9 := Lib.hid hown9; have HB9 := Lib.hid (HB8.out.grown hgrow9 HZ6.out (fun g hg => (owns_lt HO7.out hg).1)); obtain ⟨g9, c9, e9, hc9, hm9, hb9, hs9, -, -⟩ := owns_cells hown9 (by omega); cases e9; clear hown9 hgrow9))
              have HI9 := Lib.hid (HI.out.below HB9.out)
              clear hm9
              go_loopw [6] (fun i wr2 => ∃ (q : Nat) (y : Int), j ≤ q ∧ q ≤ O.length ∧ i = .int .i64 q ∧ wr2.ownsRow w.heap.size 3 1 (.slice (some ⟨g9, 0, none⟩) (O.length + 1) c9) (O.length + 1) (encI (holeL O q y)) ∧ Below w.heap.size w wr2) (fun i _ => (intOf i).toNat)
              case atStart => exact ⟨O.length, 0, hj, Nat.le_refl _, rfl, by rw [encI_hole, ← encI_len O, ← hole_start]; exact (encI_len O).symm ▸ HO9.out, HB9.out⟩
              case round =>
                obtain ⟨q, y, hjq, hq, rfl, hown, hb⟩ := hrel
                have HOq := Lib.hid hown; have HBq := Lib.hid hb
                have hbq := hb.size
                have hfr := fun p => World.ownsRow.frozenAt hown p
                have hcell : ∀ p u, (encI (holeL O q y))[p]? = some u → wr.cell? ⟨g9, p, none⟩ = some u := by
                  obtain ⟨g', c', e', _, _, _, _, h, _⟩ := owns_cells hown (by omega)
                  cases e'; exact h
                have hlq := hole_len O q y
                by_cases hjq2 : j < q
                · obtain ⟨p, hqp⟩ : ∃ p, q = p + 1 := ⟨q - 1, by omega⟩
                  have hpo : p < O.length := by omega
                  have hcp := hcell p (.int .i64 O[p]) (by rw [hqp, encI, List.getElem?_map, hole_get O p y hpo, List.getElem?_eq_getElem hpo]; rfl)
                  have hcq := hcell q (.int .i64 ((holeL O q y)[q]'(by omega))) (by rw [encI, List.getElem?_map, List.getElem?_eq_getElem (by omega)]; rfl)
                  have hfq := hfr q
                  have HSt : Hid ((encI (holeL O q y)).set q (.int .i64 O[p]) = encI (holeL O p O[p])) := Lib.hid (by rw [← encI_set, hole_set O q y O[p] (by omega), hqp, hole_step O p hpo])
                  have hpw : IntKind.i64.wrap ((q : Int) - 1) = (p : Int) := by rw [IntKind.wrap_i64]; omega
                  have hpq : (q : Int) - 1 = (p : Int) := by omega
                  have HPQ := Lib.hid hpq
                  have hpj : (j : Int) < (q : Int) := by omega
                  have hpjd : decide ((j : Int) < (q : Int)) = true := decide_eq_true hpj
                  have hp0 : (0 : Int) ≤ (p : Int) := by omega
                  have hpl : (p : Int) < ((O.length + 1 : Nat) : Int) := by omega
                  have hql : (q : Int) < ((O.length + 1 : Nat) : Int) := by omega
                  have hq0 : (0 : Int) ≤ (q : Int) := by omega
                  have HMs : Hid (p < q ∧ j ≤ p ∧ p ≤ O.length) := Lib.hid (by omega)
                  generalize O[p] = z at *
                  generalize (holeL O q y)[q]'_ = z2 at *
                  generalize hm1 : O.length + 1 = m1 at *
                  clear hown hb hcell hfr hqp hpq
                  go_wp2_with fail
                  go_roundw
                  case rel => exact ⟨p, z, HMs.out.2.1, HMs.out.2.2, by have := HPQ.out; congr 1, by rw [← HSt.out]; exact owns_set HOq.out q _, HBq.out.setCell hb9 _⟩
                  case measure => have := HMs.out; have := HPQ.out; simp [intOf]; omega
                · obtain rfl : q = j := by omega
                  have hcq := hcell q (.int .i64 ((holeL O q y)[q]'(by omega))) (by rw [encI, List.getElem?_map, List.getElem?_eq_getElem (by omega)]; rfl)
                  have hfq := hfr q
                  have hcx9 := keep HC0.out HBq.out
                  have hpj : ¬ (q : Int) < (q : Int) := by omega
                  have hql : (q : Int) < ((O.length + 1 : Nat) : Int) := by omega
                  have hq0 : (0 : Int) ≤ (q : Int) := by omega
                  have HF := Lib.hid (owns_set HOq.out q (.int .i64 x))
                  rw [← encI_set, hole_set O q y x hq, ← HI1.out, ← HSk.out] at HF
                  have HL9 : Hid (O.length + 1 = O1.length) := Lib.hid (by rw [HSk.out, HI1.out, hole_len])
                  generalize (holeL O q y)[q]'_ = z2 at *
                  clear hown hb hcell hfr hcx
                  go_wp2_with fail
                  go_roundw
                  case rel => exact ⟨k + 1, by omega, by go_num, by rw [HO1.out, ← HL9.out]; exact HF.out, HBq.out.setCell hb9 _⟩
                  case measure => simp [intOf]; omega
        · have hjn : j = O.length := by omega
          have hji : ¬ (j : Int) < (O.length : Int) := by omega
          have hjd : decide ((j : Int) < (O.length : Int)) = false := decide_eq_false hji
          have HAj : Hid (atG (fun a b : Int => a < b) x O = j) := Lib.hid (at_of (lt := fun a b : Int => a < b) HLt.out hj fun h => absurd h hjO)
          have HI1 : Hid (insI x O = holeL O j x) := Lib.hid (by
            have := ins_hole (lt := fun a b : Int => a < b) (x := x) (O := O) (by rw [HAj.out, List.getElem?_eq_none (by omega)]; exact fun e => by cases e)
            rw [HAj.out] at this
            exact this)
          clear hbs hjn
          go_wp2_with fail
          go_quiet (fail)
          go_wp2_with fail
          go_quiet (fail)
          clear hjO hji hjd
          generalize hwd : (World.drewN (World.drewN wr _) _) = wd
          have hbd : Below w.heap.size w wd := by rw [← hwd]; exact below_drewN (below_drewN (HB.out.trans (HBs.out.mono HB.out.size)) _) _
          have hod : wd.ownsRow w.heap.size 3 1 (.slice va O.length vc) O.length (encI O) := by rw [← hwd]; exact HOs.out
          clear hwd
          have HN7 := Lib.hid (cell_one_at wd (.int .i64 0) 3)
          have HB8 := Lib.hid (hbd.alloc hbd.size (.cells #[.int .i64 0] 3))
          have HO7 := Lib.hid (hod.alloc (.cells #[.int .i64 0] 3))
          have HS63 : Hid (O.length + 1 ≤ maxLen) := Lib.hid (by unfold maxLen; omega)
          have HSb : Hid ((O.length + 1) * 8 ≤ 140737488355328) := Lib.hid (by omega)
          have HZ6 : Hid (w.heap.size ≤ (wd.alloc (.cells #[.int .i64 0] 3)).heap.size) := Lib.hid HB8.out.size
          clear hbd hod
          go_wp2_with (first | (at_builtin; refine wpList_append_own_at _ rfl _ _ 40 rfl w.heap.size 3 i0 (.int .i64 0) 1 8 Try.underlying40 hi ip0 ip1 ip2 rfl (by decide) _ _ _ rfl HO7.out ⟨wd.heap.size, 0, none⟩ 1 1 [.int .i64 0] rfl rfl HN7.out (one_int _) HS63.out HSb.out HZ6.out ?_; intro v9 w9 hown9 hgrow9 _ _; have HO9 := Lib.hid hown9; have HB9 := Lib.hid (HB8.out.grown hgrow9 HZ6.out (fun g hg => (owns_lt HO7.out hg).1)); obtain ⟨g9, c9, e9, hc9, hm9, hb9, hs9, -, -⟩ := owns_cells hown9 (by omega); cases e9; clear hown9 hgrow9))
          have HI9 := Lib.hid (HI.out.below HB9.out)
          clear hm9
          go_loopw [6] (fun i wr2 => ∃ (q : Nat) (y : Int), j ≤ q ∧ q ≤ O.length ∧ i = .int .i64 q ∧ wr2.ownsRow w.heap.size 3 1 (.slice (some ⟨g9, 0, none⟩) (O.length + 1) c9) (O.length + 1) (encI (holeL O q y)) ∧ Below w.heap.size w wr2) (fun i _ => (intOf i).toNat)
          case atStart => exact ⟨O.length, 0, hj, Nat.le_refl _, rfl, by rw [encI_hole, ← encI_len O, ← hole_start]; exact (encI_len O).symm ▸ HO9.out, HB9.out⟩
          case round =>
            obtain ⟨q, y, hjq, hq, rfl, hown, hb⟩ := hrel
            have HOq := Lib.hid hown; have HBq := Lib.hid hb
            have hbq := hb.size
            have hfr := fun p => World.ownsRow.frozenAt hown p
            have hcell : ∀ p u, (encI (holeL O q y))[p]? = some u → wr.cell? ⟨g9, p, none⟩ = some u := by
              obtain ⟨g', c', e', _, _, _, _, h, _⟩ := owns_cells hown (by omega)
              cases e'; exact h
            have hlq := hole_len O q y
            by_cases hjq2 : j < q
            · obtain ⟨p, hqp⟩ : ∃ p, q = p + 1 := ⟨q - 1, by omega⟩
              have hpo : p < O.length := by omega
              have hcp := hcell p (.int .i64 O[p]) (by rw [hqp, encI, List.getElem?_map, hole_get O p y hpo, List.getElem?_eq_getElem hpo]; rfl)
              have hcq := hcell q (.int .i64 ((holeL O q y)[q]'(by omega))) (by rw [encI, List.getElem?_map, List.getElem?_eq_getElem (by omega)]; rfl)
              have hfq := hfr q
              have HSt : Hid ((encI (holeL O q y)).set q (.int .i64 O[p]) = encI (holeL O p O[p])) := Lib.hid (by rw [← encI_set, hole_set O q y O[p] (by omega), hqp, hole_step O p hpo])
              have hpw : IntKind.i64.wrap ((q : Int) - 1) = (p : Int) := by rw [IntKind.wrap_i64]; omega
              have hpq : (q : Int) - 1 = (p : Int) := by omega
              have HPQ := Lib.hid hpq
              have hpj : (j : Int) < (q : Int) := by omega
              have hpjd : decide ((j : Int) < (q : Int)) = true := decide_eq_true hpj
              have hp0 : (0 : Int) ≤ (p : Int) := by omega
              have hpl : (p : Int) < ((O.length + 1 : Nat) : Int) := by omega
              have hql : (q : Int) < ((O.length + 1 : Nat) : Int) := by omega
              have hq0 : (0 : Int) ≤ (q : Int) := by omega
              have HMs : Hid (p < q ∧ j ≤ p ∧ p ≤ O.length) := Lib.hid (by omega)
              generalize O[p] = z at *
              generalize (holeL O q y)[q]'_ = z2 at *
              generalize hm1 : O.length + 1 = m1 at *
              clear hown hb hcell hfr hqp hpq
              go_wp2_with fail
              go_roundw
              case rel => exact ⟨p, z, HMs.out.2.1, HMs.out.2.2, by have := HPQ.out; congr 1, by rw [← HSt.out]; exact owns_set HOq.out q _, HBq.out.setCell hb9 _⟩
              case measure => have := HMs.out; have := HPQ.out; simp [intOf]; omega
            · obtain rfl : q = j := by omega
              have hcq := hcell q (.int .i64 ((holeL O q y)[q]'(by omega))) (by rw [encI, List.getElem?_map, List.getElem?_eq_getElem (by omega)]; rfl)
              have hfq := hfr q
              have hcx9 := keep HC0.out HBq.out
              have hpj : ¬ (q : Int) < (q : Int) := by omega
              have hql : (q : Int) < ((O.length + 1 : Nat) : Int) := by omega
              have hq0 : (0 : Int) ≤ (q : Int) := by omega
              have HF := Lib.hid (owns_set HOq.out q (.int .i64 x))
              rw [← encI_set, hole_set O q y x hq, ← HI1.out, ← HSk.out] at HF
              have HL9 : Hid (O.length + 1 = O1.length) := Lib.hid (by rw [HSk.out, HI1.out, hole_len])
              generalize (holeL O q y)[q]'_ = z2 at *
              clear hown hb hcell hfr hcx
              go_wp2_with fail
              go_roundw
              case rel => exact ⟨k + 1, by omega, by go_num, by rw [HO1.out, ← HL9.out]; exact HF.out, HBq.out.setCell hb9 _⟩
              case measure => simp [intOf]; omega
    · obtain rfl : k = c.length := by omega
      rw [HRes.out] at HO
      go_wp2_with fail
      go_ret
      exact ⟨⟨_, rfl, by rw [HRes.out]; exact HO.out⟩, HB.out⟩
end Go.Proofs.Ytahaoddilejpnaa
