/- The walk of the document's Parent. -/
import Derived.Test.YtmljmmnofhhheaaWV
namespace Go.Proofs.Ytmljmmnofhhheaa
open Go.RowKit

set_option maxRecDepth 100000 in
set_option maxHeartbeats 4000000 in
theorem rParent_any (g0 : List (List Int)) (a : Option Addr) (cap : Nat) (b0 : Int) (w : World) (hin : RowsIn w a g0) (hs : Short g0) :
    Calls Try.prog 35 #[.slice a g0.length cap, .int .i64 b0] w (ParentPost (parentV g0 b0) (parentIs g0 b0) (thereE g0 [b0]) w) := by
  have hbl : Below w.heap.size w (w.alloc (.cells #[.int .i64 b0] 3)) := (Below.refl _ _).alloc (Nat.le_refl _) _
  have HV := Lib.hid (rThere_any g0 a cap [b0] _ 1 _ (hin.below hbl) hs (one_ints w b0) (by simp))
  by_cases hv : thereE g0 [b0] = 0
  · obtain ⟨hval, hr, hrr⟩ := there_parts hv
    have hvr := hr b0 (by simp)
    obtain ⟨b, rfl⟩ := Int.eq_ofNat_of_zero_le hvr.1
    have hn1 : parentV g0 b = (parentO (gN g0) b).getD 0 := by unfold parentV; rw [if_pos hv, Int.toNat_natCast]
    have hn2 : parentIs g0 b = (parentO (gN g0) b).isSome := by unfold parentIs; rw [if_pos hv, Int.toNat_natCast]
    have ok := valid_ok hval
    have hg := hin.graph hval
    have hlen : g0.length = (gN g0).length := by rw [gN_len]
    have hbn : b < (gN g0).length := by rw [gN_len]; omega
    rw [hn1, hn2]; rw [hv] at HV; rw [hv]
    rw [hlen] at HV; rw [hlen]
    clear hin hs hv hn1 hn2 hlen hval hr hrr hvr
    generalize gN g0 = g at *
    have h10 := ok.ten
    have HG := Lib.hid hg; have HOk := Lib.hid ok; have HBl := Lib.hid hbl
    have HReach : Hid (∀ w', Below w.heap.size w w' → Calls Try.prog 48 #[.slice a g.length cap, .int .i64 0, .int .i64 (-1)] w' fun e w'' => ∃ v, e = .returned v ∧ BoolSl w'' v g.length (rs g (-1) 0) ∧ Below w'.heap.size w' w'') := Lib.hid fun w' hb => rReach_any a cap g 0 (-1) w' (hg.below hb) ok ok.pos
    have hten := setUpto_ten (fun j h => rs_out (but := -1) ok ok.pos h) ok.ten
    have hLlt : ∀ k, k < (setL (rs g (-1) 0)).length → (setL (rs g (-1) 0)).getD k 0 < g.length := fun k hk => by
      have := (setL_mem.1 (getD_mem_any 0 hk)).2
      exact (rs_iff.1 this).lt ok.fits ok.pos
    have hLlen : (setL (rs g (-1) 0)).length ≤ 10 := setUpto_len _ 10
    have HLt := Lib.hid hLlt
    have HFound : Hid (∀ k, NotFound (setL (rs g (-1) 0)) (fun a => aboveB g b a && lastB g b a) k → k < (setL (rs g (-1) 0)).length → (aboveB g b ((setL (rs g (-1) 0)).getD k 0) && lastB g b ((setL (rs g (-1) 0)).getD k 0)) = true → parentO g b = some ((setL (rs g (-1) 0)).getD k 0)) := Lib.hid fun k h1 h2 h3 => h1.found h2 h3
    have HNone : Hid (NotFound (setL (rs g (-1) 0)) (fun a => aboveB g b a && lastB g b a) (setL (rs g (-1) 0)).length → parentO g b = none) := Lib.hid fun h => h.fin
    have HLast : Hid (∀ x, lastB g b x = !((setL (rs g (-1) 0)).any fun c => aboveB g b c && !(domB g c x))) := Lib.hid fun x => rfl
    clear hg hbl hLlt
    go_enter Try.func35, Try.ntmps35
    go_wp2_with fail
    refine HV.out.mono ?_; rintro e w1 ⟨rfl, hb1⟩
    have HB1 := Lib.hid (HBl.out.trans (hb1.mono HBl.out.size))
    clear hb1 HV HBl
    go_wp2_with fail
    refine (HReach.out _ HB1.out).mono ?_; rintro e w2 ⟨v2, rfl, hbs, hb2⟩
    have HB2 := Lib.hid (HB1.out.trans (hb2.mono HB1.out.size))
    have HSet := Lib.hid (rSet_any _ _ _ _ hbs (by omega))
    rw [hten] at HSet
    clear hb2 HB1 hbs hten
    go_wp2_with fail
    refine HSet.out.mono ?_; rintro e w3 ⟨v3, rfl, ⟨la, lcap, rfl, hl⟩, hb3⟩
    have HB3 := Lib.hid (HB2.out.trans (hb3.mono HB2.out.size)); have HL := Lib.hid hl
    clear hb3 HB2 hl HSet
    generalize setL (rs g (-1) 0) = L at *
    generalize hpp : (fun a => aboveB g b a && lastB g b a) = p at *
    have HPP : Hid (∀ x, p x = (aboveB g b x && lastB g b x)) := Lib.hid fun x => by rw [← hpp]
    clear hpp
    go_wp2_with fail
    go_loopw [9] (fun i wr => ∃ k : Nat, k ≤ L.length ∧ i = .int .i64 k ∧ NotFound L p k ∧ Below w3.heap.size w3 wr) (fun i _ => L.length - (intOf i).toNat)
    case atStart => exact ⟨0, Nat.zero_le _, rfl, NotFound.zero, Below.refl _ _⟩
    case round =>
      obtain ⟨k, hk, rfl, hnf, hbl⟩ := hrel
      by_cases hlt : k < L.length
      · obtain ⟨b2, off, rfl, hx⟩ := HL.out.below hbl k hlt
        have hxl := HLt.out k hlt
        have hbw := HB3.out.trans (hbl.mono HB3.out.size)
        have HDom := Lib.hid (rDominates_any g a cap (L.getD k 0) b wr (HG.out.below hbw) HOk.out hbn)
        have HBl := Lib.hid hbl
        have HFd := Lib.hid (HFound.out k hnf hlt); have HNx := Lib.hid (fun h => hnf.next (p := p) hlt h)
        have hab : aboveB g b (L.getD k 0) = (decide (L.getD k 0 ≠ b) && domB g (L.getD k 0) b) := rfl
        have hpx := HPP.out (L.getD k 0)
        have hki : (k : Int) < (L.length : Int) := by omega
        have hla := HLast.out (L.getD k 0)
        clear hbl hbw hnf
        generalize L.getD k 0 = x at *
        by_cases hxb : x = b
        · have hxb' : ((x : Int) == (b : Int)) = true := by simp; omega
          have HNx1 := Lib.hid (HNx.out (by rw [hpx, hab]; simp [hxb]))
          clear hab hxb hpx hla HFd HNx
          go_wp2_with fail
          go_roundw
          case rel => exact ⟨k + 1, by omega, by go_num, HNx1.out, HBl.out⟩
          case measure => simp [intOf]; omega
        · have hxb' : ((x : Int) == (b : Int)) = false := by simp; omega
          cases hd : domB g x b
          · rw [hd] at HDom
            have HNx1 := Lib.hid (HNx.out (by rw [hpx, hab, hd]; simp))
            clear hab hxb hpx hla HFd HNx hd
            go_wp2_with (first | (go_at_call 49; refine HDom.out.mono ?_; rintro e w4 ⟨rfl, hb4⟩))
            go_roundw
            case rel => exact ⟨k + 1, by omega, by go_num, HNx1.out, HBl.out.trans (hb4.mono HBl.out.size)⟩
            case measure => simp [intOf]; omega
          · rw [hd] at HDom
            have hab1 : aboveB g b x = true := by rw [hab, hd]; simp [hxb]
            rw [hab1, Bool.true_and] at hpx HFd
            clear hab hxb hd
            generalize hq : (fun c => aboveB g b c && !(domB g c x)) = q at *
            have HQ : Hid (∀ c, q c = ((decide (c ≠ b) && domB g c b) && !(domB g c x))) := Lib.hid fun c => by rw [← hq]; rfl
            have HC0 : Hid ((!((L.take 0).any q)) = true) := Lib.hid (by simp)
            have HPx := Lib.hid hpx; have HLa := Lib.hid hla
            clear hq hab1 hpx hla
            go_wp2_with fail
            refine HDom.out.mono ?_; rintro e w4 ⟨rfl, hb4⟩
            have HB4 := Lib.hid (HBl.out.trans (hb4.mono HBl.out.size))
            have HL4 := Lib.hid (HL.out.below HB4.out)
            clear hb4
            go_wp2_with fail
            go_loopw [11, 12] (fun la i wr => ∃ m : Nat, m ≤ L.length ∧ i = .int .i64 m ∧ la = .bool (!((L.take m).any q)) ∧ Below w4.heap.size w4 wr) (fun _ i _ => L.length - (intOf i).toNat)
            case atStart => exact ⟨0, Nat.zero_le _, rfl, by rw [HC0.out], Below.refl _ _⟩
            case round =>
              obtain ⟨m, hm, rfl, rfl, hbm⟩ := hrel
              by_cases hml : m < L.length
              · obtain ⟨b3, off3, e3, hc⟩ := HL4.out.below hbm m hml
                simp only [Option.some.injEq, Addr.mk.injEq, and_true] at e3
                obtain ⟨rfl, rfl⟩ := e3
                have hat := any_take L q 0 m hml
                have hbw := HB3.out.trans ((HB4.out.trans (hbm.mono HB4.out.size)).mono HB3.out.size)
                have HD1 := Lib.hid (rDominates_any g a cap (L.getD m 0) b wr (HG.out.below hbw) HOk.out hbn)
                have HD2 : Hid (∀ w', Below wr.heap.size wr w' → Calls Try.prog 49 #[.slice a g.length cap, .int .i64 ((L.getD m 0 : Nat) : Int), .int .i64 x] w' fun e w'' => e = .returned (.bool (domB g (L.getD m 0) x)) ∧ Below w'.heap.size w' w'') := Lib.hid fun w' hb => rDominates_any g a cap (L.getD m 0) x w' ((HG.out.below hbw).below hb) HOk.out hxl
                have hqc := HQ.out (L.getD m 0)
                have HBm := Lib.hid hbm; have HAny := Lib.hid hat
                have hmi : (m : Int) < (L.length : Int) := by omega
                clear hat hbw hbm
                generalize L.getD m 0 = c at *
                generalize (L.take m).any q = A at *
                by_cases hcb : c = b
                · have hcb' : ((c : Int) != (b : Int)) = false := by simp; omega
                  have HA2 : Hid ((L.take (m + 1)).any q = A) := Lib.hid (by rw [HAny.out, hqc]; simp [hcb])
                  clear hcb hqc
                  go_wp2_with fail
                  go_roundw
                  case rel => exact ⟨m + 1, by omega, by go_num, by rw [HA2.out], HBm.out⟩
                  case measure => simp [intOf]; omega
                · have hcb' : ((c : Int) != (b : Int)) = true := by simp; omega
                  cases hd1 : domB g c b
                  · rw [hd1] at HD1
                    have HA2 : Hid ((L.take (m + 1)).any q = A) := Lib.hid (by rw [HAny.out, hqc, hd1]; simp)
                    clear hcb hqc hd1
                    go_wp2_with (first | (go_at_call 49; refine HD1.out.mono ?_; rintro e w5 ⟨rfl, hb5⟩))
                    go_roundw
                    case rel => exact ⟨m + 1, by omega, by go_num, by rw [HA2.out], HBm.out.trans (hb5.mono HBm.out.size)⟩
                    case measure => simp [intOf]; omega
                  · rw [hd1] at HD1
                    cases hd2 : domB g c x
                    · rw [hd2] at HD2
                      have HA2 : Hid ((L.take (m + 1)).any q = true) := Lib.hid (by rw [HAny.out, hqc, hd1, hd2]; simp [hcb])
                      clear hcb hqc hd1 hd2
                      go_wp2_with fail
                      refine HD1.out.mono ?_; rintro e w5 ⟨rfl, hb5⟩
                      have HB5 := Lib.hid hb5; clear hb5
                      go_wp2_with fail
                      refine (HD2.out _ HB5.out).mono ?_; rintro e w6 ⟨rfl, hb6⟩
                      go_wp2_with fail
                      go_roundw
                      case rel => exact ⟨m + 1, by omega, by go_num, by rw [HA2.out]; rfl, HBm.out.trans ((HB5.out.trans (hb6.mono HB5.out.size)).mono HBm.out.size)⟩
                      case measure => simp [intOf]; omega
                    · rw [hd2] at HD2
                      have HA2 : Hid ((L.take (m + 1)).any q = A) := Lib.hid (by rw [HAny.out, hqc, hd1, hd2]; simp)
                      clear hcb hqc hd1 hd2
                      go_wp2_with fail
                      refine HD1.out.mono ?_; rintro e w5 ⟨rfl, hb5⟩
                      have HB5 := Lib.hid hb5; clear hb5
                      go_wp2_with fail
                      refine (HD2.out _ HB5.out).mono ?_; rintro e w6 ⟨rfl, hb6⟩
                      go_wp2_with fail
                      go_roundw
                      case rel => exact ⟨m + 1, by omega, by go_num, by rw [HA2.out], HBm.out.trans ((HB5.out.trans (hb6.mono HB5.out.size)).mono HBm.out.size)⟩
                      case measure => simp [intOf]; omega
              · obtain rfl : m = L.length := by omega
                rw [List.take_length]
                have HBm := Lib.hid (HB4.out.trans (hbm.mono HB4.out.size))
                clear hbm
                cases ha : L.any q
                · have HPO := Lib.hid (parent_some (HFd.out (by rw [HLa.out, ha]; rfl)))
                  clear ha
                  go_wp2_with fail
                  go_ret3
                  exact ⟨ret_three ⟨HPO.out.1.symm, HPO.out.2.symm⟩, HB3.out.trans (HBm.out.mono HB3.out.size)⟩
                · have HNx1 := Lib.hid (HNx.out (by rw [HPx.out, HLa.out, ha]; rfl))
                  clear ha
                  go_wp2_with fail
                  go_roundw
                  case rel => exact ⟨k + 1, by omega, by go_num, HNx1.out, HBm.out⟩
                  case measure => simp [intOf]; omega
      · obtain rfl : k = L.length := by omega
        have HPO := Lib.hid (parent_none (HNone.out hnf)); have HBl := Lib.hid (HB3.out.trans (hbl.mono HB3.out.size))
        clear hnf hbl
        go_wp2_with fail
        go_ret3
        exact ⟨ret_three ⟨HPO.out.1.symm, HPO.out.2.symm⟩, HBl.out⟩
  · have hn1 : parentV g0 b0 = 0 := by unfold parentV; rw [if_neg hv]
    have hn2 : parentIs g0 b0 = false := by unfold parentIs; rw [if_neg hv]
    rw [hn1, hn2]
    generalize thereE g0 [b0] = V at *
    have hvb : (V != 0) = true := by simpa using hv
    clear hv hn1 hn2
    go_enter Try.func35, Try.ntmps35
    go_wp2_with fail
    refine HV.out.mono ?_; rintro e w1 ⟨rfl, hb1⟩
    have hb1 := hbl.trans (hb1.mono hbl.size)
    go_wp2_with fail
    go_ret3
    exact ⟨rfl, hb1⟩
end Go.Proofs.Ytmljmmnofhhheaa
