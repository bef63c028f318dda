/- The walk of CheckColors of the document. -/
import Derived.Test.YtgpacajlfclobaaQ2
namespace Go.Proofs.Ytgpacajlfclobaa
open Go.RowKit Go.Maps

theorem addN_yes {s : List Nat} {c : Nat} (h : s.any (· == c) = true) : addN s c = s := by unfold addN; rw [if_pos h]
theorem addN_no {s : List Nat} {c : Nat} (h : s.any (· == c) = false) : addN s c = s ++ [c] := by unfold addN; rw [if_neg (by rw [h]; simp)]

set_option maxRecDepth 100000 in
set_option maxHeartbeats 2000000 in
theorem rCheck_any (n : Int) (es : List (Int × Int)) (cs : List Int) (a ca : Option Addr) (acap ccap : Nat) (w : World) (hin : MovesIn w a es) (hcs : IntsIn w ca cs) (hl : es.length ≤ 1000) (hcl : cs.length ≤ 1000) :
    Calls Try.prog 17 #[.int .i64 n, .slice a es.length acap, .slice ca cs.length ccap] w fun e w' => e = .returned (.tuple #[.int .i64 (checkN n es cs : Nat), .int .i64 (checkE n es cs)]) ∧ Below w.heap.size w w' := by
  by_cases h0 : 0 ≤ n
  rotate_left
  · have e1 : checkE n es cs = 1 := by unfold checkE edgedB; rw [decide_eq_false h0]; simp
    have e2 : checkN n es cs = 0 := by unfold checkN; rw [e1]; rfl
    have h0' : n < 0 := by omega
    rw [e1, e2]
    clear e1 e2 hin hcs h0
    go_enter Try.func17, Try.ntmps17
    go_wp2_with fail
    go_ret2
    exact ⟨rfl, Below.refl _ _⟩
  have h0' : ¬ n < 0 := by omega
  by_cases h12 : n ≤ 12
  rotate_left
  · have e1 : checkE n es cs = 1 := by unfold checkE edgedB; rw [decide_eq_false h12]; simp
    have e2 : checkN n es cs = 0 := by unfold checkN; rw [e1]; rfl
    have h12' : 12 < n := by omega
    rw [e1, e2]
    clear e1 e2 hin hcs h12 h0
    go_enter Try.func17, Try.ntmps17
    go_wp2_with fail
    go_ret2
    exact ⟨rfl, Below.refl _ _⟩
  have h12' : ¬ 12 < n := by omega
  have HE := Lib.hid (edges_any n es a acap w hin hl)
  have hed : edgedB n es = !(es.any (eBad n)) := by unfold edgedB; rw [decide_eq_true h0, decide_eq_true h12]; rfl
  rw [← hed] at HE
  cases he : edgedB n es
  · have e1 : checkE n es cs = 1 := by unfold checkE; rw [he]; simp
    have e2 : checkN n es cs = 0 := by unfold checkN; rw [e1]; rfl
    rw [e1, e2]; rw [he] at HE
    clear hin hcs he e1 e2 hed h0 h12
    go_enter Try.func17, Try.ntmps17
    go_wp2_with fail
    refine HE.out.mono ?_; rintro e w1 ⟨rfl, hb1⟩
    go_wp2_with fail
    go_ret2
    exact ⟨rfl, hb1⟩
  rw [he] at HE
  by_cases hln : (cs.length : Int) = n
  rotate_left
  · have e1 : checkE n es cs = 1 := by unfold checkE; rw [decide_eq_false hln]; simp
    have e2 : checkN n es cs = 0 := by unfold checkN; rw [e1]; rfl
    have hlb : ((cs.length : Int) == n) = false := by rw [beq_eq_false_iff_ne]; exact hln
    rw [e1, e2]
    clear hin hcs he e1 e2 hed h0 h12
    go_enter Try.func17, Try.ntmps17
    go_wp2_with fail
    refine HE.out.mono ?_; rintro e w1 ⟨rfl, hb1⟩
    go_wp2_with fail
    go_ret2
    exact ⟨rfl, hb1⟩
  subst hln
  obtain ⟨_, hn12, heok⟩ := edged_ok he
  have HCs := Lib.hid hcs; have HEs := Lib.hid hin
  have HBad : Hid (∀ k, k < cs.length → cBad (cs.getD k 0) = true → checkE (cs.length : Int) es cs = 1 ∧ checkN (cs.length : Int) es cs = 0) := Lib.hid fun k hk h => by
    have e1 : checkE (cs.length : Int) es cs = 1 := by unfold checkE; rw [any_here (d := 0) hk h]; simp
    exact ⟨e1, by unfold checkN; rw [e1]; rfl⟩
  have HOk : Hid (NoneYet cs cBad cs.length → (checkE (cs.length : Int) es cs = if es.any (clashB cs) then 8 else 0) ∧ checkN (cs.length : Int) es cs = if es.any (clashB cs) then 0 else (seenN cs cs.length).length) := Lib.hid fun h => by
    have e1 : checkE (cs.length : Int) es cs = if es.any (clashB cs) then 8 else 0 := by unfold checkE; rw [he, h.fin]; simp
    refine ⟨e1, ?_⟩
    unfold checkN
    rw [e1]
    cases es.any (clashB cs) <;> rfl
  have HYes : Hid (∀ k, k < es.length → clashB cs (es.getD k (0, 0)) = true → es.any (clashB cs) = true) := Lib.hid fun k hk h => any_here (d := (0, 0)) hk h
  have HEok : Hid (∀ k, k < es.length → (0 ≤ (es.getD k (0, 0)).1 ∧ (es.getD k (0, 0)).1 < cs.length) ∧ (0 ≤ (es.getD k (0, 0)).2 ∧ (es.getD k (0, 0)).2 < cs.length)) := Lib.hid fun k hk => by
    have := heok _ (show es.getD k (0, 0) ∈ es by rw [List.getD_eq_getElem?_getD, List.getElem?_eq_getElem hk]; simp)
    exact ⟨this.1, this.2.1⟩
  have HNx : Hid (∀ k, k < cs.length → seenN cs (k + 1) = addN (seenN cs k) (cs.getD k 0).toNat) := Lib.hid fun k hk => seenN_next hk
  have HLn : Hid (∀ k, k ≤ cs.length → (seenN cs k).length ≤ k) := Lib.hid (seenN_len cs)
  obtain ⟨i0, hi, hz0, hz1, hz2⟩ := info_parts Try.infoInt
  clear hin hcs he hed heok h0 h12
  generalize checkE (cs.length : Int) es cs = E at *
  generalize checkN (cs.length : Int) es cs = N at *
  go_enter Try.func17, Try.ntmps17
  go_wp2_with fail
  refine HE.out.mono ?_; rintro e w1 ⟨rfl, hb1⟩
  have HB1 := Lib.hid hb1; clear hb1
  go_wp2_with fail
  go_loopw [8, 9] (fun v i wr => ∃ k : Nat, k ≤ cs.length ∧ i = .int .i64 k ∧ NoneYet cs cBad k ∧ wr.ownsRow w1.heap.size 3 1 v (seenN cs k).length (encN (seenN cs k)) ∧ Below w1.heap.size w1 wr) (fun _ i _ => cs.length - (intOf i).toNat)
  case atStart => exact ⟨0, Nat.zero_le _, rfl, NoneYet.zero, World.ownsRow_nil _ _ _ _, Below.refl _ _⟩
  case round =>
    obtain ⟨k, hk, rfl, hny, hown, hb⟩ := hrel
    by_cases hlt : k < cs.length
    · have hki : (k : Int) < (cs.length : Int) := by omega
      obtain ⟨bc, off, rfl, c1⟩ := (HCs.out.below HB1.out).below hb k hlt
      have HB := Lib.hid hb; have HO := Lib.hid hown
      have HBk := Lib.hid (HBad.out k hlt); have HNk := Lib.hid (HNx.out k hlt)
      have HNy := Lib.hid (fun h => hny.next (d := 0) hlt h)
      have hsl := HLn.out k (by omega)
      clear hny hown hb
      generalize cs.getD k 0 = c at *
      by_cases hc0 : c < 0
      · obtain ⟨hE, hN⟩ := HBk.out (by unfold cBad; rw [decide_eq_true hc0]; rfl)
        subst hE hN
        go_wp2_with fail
        go_ret2
        exact ⟨rfl, HB1.out.trans (HB.out.mono HB1.out.size)⟩
      · by_cases hc7 : 7 < c
        · obtain ⟨hE, hN⟩ := HBk.out (by unfold cBad; rw [decide_eq_true hc7, Bool.or_true])
          subst hE hN
          go_wp2_with fail
          go_ret2
          exact ⟨rfl, HB1.out.trans (HB.out.mono HB1.out.size)⟩
        · have HN1 := Lib.hid (HNy.out (by unfold cBad; rw [decide_eq_false hc0, decide_eq_false hc7]; rfl))
          obtain ⟨c, rfl⟩ := Int.eq_ofNat_of_zero_le (by omega : 0 ≤ c)
          have HNk : Hid (seenN cs (k + 1) = addN (seenN cs k) c) := HNk
          obtain ⟨sa, sc, hv⟩ := owns_form HO.out
          subst hv
          have HHas := Lib.hid (has_any (seenN cs k) sa sc c wr (owns_bound HO.out) (by omega))
          cases hh : (seenN cs k).any (· == c)
          · rw [hh] at HHas
            have HA : Hid (seenN cs (k + 1) = seenN cs k ++ [c]) := Lib.hid (HNk.out.trans (addN_no hh))
            clear hh
            go_wp2_with fail
            refine HHas.out.mono ?_; rintro e w2 ⟨rfl, rfl⟩
            go_wp2_with (at_builtin; refine wpList_append_own _ rfl _ _ 35 rfl w1.heap.size 3 i0 (.int .i64 0) 1 8 Try.underlying35 hi hz0 hz1 hz2 rfl (by decide) _ _ _ rfl (HO.out.alloc _) ⟨wr.heap.size, 0, none⟩ 1 1 [.int .i64 c] rfl rfl (cell_one_new _ _ _) one_int (by unfold maxLen; omega) (by omega) (by have := HB.out.size; simp; omega) ?_; intro v' w3 hown' hgrow _)
            have hb3 := (HB.out.alloc HB.out.size _).grown hgrow (by have := HB.out.size; simp; omega) (fun k hk => (HO.out.lt k hk).1)
            have HO3 := Lib.hid hown'
            have HB3 := Lib.hid hb3
            clear hown' hgrow hb3
            go_wp2_with fail
            go_roundw
            case rel => exact ⟨k + 1, by omega, by go_num, HN1.out, by rw [HA.out, encN_snoc, List.length_append]; exact HO3.out, HB3.out⟩
            case measure => simp [intOf]; omega
          · rw [hh] at HHas
            have HA : Hid (seenN cs (k + 1) = seenN cs k) := Lib.hid (HNk.out.trans (addN_yes hh))
            clear hh
            go_wp2_with fail
            refine HHas.out.mono ?_; rintro e w2 ⟨rfl, rfl⟩
            go_wp2_with fail
            go_roundw
            case rel => exact ⟨k + 1, by omega, by go_num, HN1.out, by rw [HA.out]; exact HO.out, HB.out⟩
            case measure => simp [intOf]; omega
    · have hki : ¬ (k : Int) < (cs.length : Int) := by omega
      obtain rfl : k = cs.length := by omega
      obtain ⟨hE, hN⟩ := HOk.out hny
      obtain ⟨sa, sc, hv⟩ := owns_form hown
      subst hv
      have HB : Hid (Below w.heap.size w wr) := Lib.hid (HB1.out.trans (hb.mono HB1.out.size))
      have HYe := HYes
      have HNo : Hid (NoneYet es (clashB cs) es.length → es.any (clashB cs) = false) := Lib.hid fun h => h.fin
      have HE1 := Lib.hid hE; have HN1 := Lib.hid hN
      clear hny hown hb hE hN HBad HOk
      generalize (seenN cs cs.length).length = S at *
      generalize es.any (clashB cs) = B at *
      go_wp2_with fail
      go_loopw [10] (fun i ws => ∃ k : Nat, k ≤ es.length ∧ i = .int .i64 k ∧ NoneYet es (clashB cs) k ∧ Below wr.heap.size wr ws) (fun i _ => es.length - (intOf i).toNat)
      case atStart => exact ⟨0, Nat.zero_le _, rfl, NoneYet.zero, Below.refl _ _⟩
      case round =>
        obtain ⟨m, hm, rfl, hny, hb⟩ := hrel
        by_cases hmt : m < es.length
        · have hmi : (m : Int) < (es.length : Int) := by omega
          have HBw : Hid (Below w.heap.size w wr) := Lib.hid (HB.out.trans (hb.mono HB.out.size))
          obtain ⟨be, eoff, rfl, c1, c2⟩ := HEs.out.below HBw.out m hmt
          obtain ⟨hx, hy⟩ := HEok.out m hmt
          have HYm := Lib.hid (HYe.out m hmt)
          have HNm := Lib.hid (fun h => hny.next (d := (0, 0)) hmt h)
          have HBr := Lib.hid hb
          clear hny hb
          generalize es.getD m (0, 0) = ed at *
          obtain ⟨x, y⟩ := ed
          have c1 : wr.cell? ⟨be, eoff + m * 2, none⟩ = some (.int .i64 x) := c1
          have c2 : wr.cell? ⟨be, eoff + m * 2 + 1, none⟩ = some (.int .i64 y) := c2
          obtain ⟨x, rfl⟩ := Int.eq_ofNat_of_zero_le hx.1
          obtain ⟨y, rfl⟩ := Int.eq_ofNat_of_zero_le hy.1
          have hxi : (x : Int) < (cs.length : Int) := hx.2
          have hyi : (y : Int) < (cs.length : Int) := hy.2
          obtain ⟨bc, off, rfl, d1⟩ := HCs.out.below HBw.out x (by omega)
          obtain ⟨bc', off', e2, d2⟩ := HCs.out.below HBw.out y (by omega)
          obtain ⟨rfl, rfl⟩ : bc = bc' ∧ off = off' := by simpa using e2
          have hcl2 : clashB cs ((x : Int), (y : Int)) = (cs.getD x 0 == cs.getD y 0) := by simp [clashB]
          rw [hcl2] at HYm HNm
          clear hcl2 hx hy e2
          generalize cs.getD x 0 = u at *
          generalize cs.getD y 0 = v at *
          cases huv : (u == v)
          · have HN2 := Lib.hid (HNm.out huv)
            go_wp2_with fail
            go_quiet (fail)
            go_wp2_with fail
            go_roundw
            case rel => exact ⟨m + 1, by omega, by go_num, HN2.out, HBr.out.trans (below_drewN (Below.refl _ _) _)⟩
            case measure => simp [intOf]; omega
          · have hB := HYm.out huv
            subst hB
            rw [if_pos rfl] at HE1 HN1
            have hE := HE1.out; have hN := HN1.out
            subst hE hN
            go_wp2_with fail
            go_quiet (fail)
            go_wp2_with fail
            go_ret2
            exact ⟨rfl, HBw.out.trans (below_drewN (Below.refl _ _) _)⟩
        · have hmi : ¬ (m : Int) < (es.length : Int) := by omega
          obtain rfl : m = es.length := by omega
          have hB := HNo.out hny
          subst hB
          rw [if_neg (by simp)] at HE1 HN1
          have hE := HE1.out; have hN := HN1.out
          subst hE hN
          have HBw : Hid (Below w.heap.size w wr) := Lib.hid (HB.out.trans (hb.mono HB.out.size))
          clear hny hb
          go_wp2_with fail
          go_ret2
          exact ⟨rfl, HBw.out⟩
end Go.Proofs.Ytgpacajlfclobaa
