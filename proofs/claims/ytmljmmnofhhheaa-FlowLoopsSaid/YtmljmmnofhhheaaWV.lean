/- Walks of Parent, both. -/
import Derived.Test.YtmljmmnofhhheaaWC
import Derived.Test.YtmljmmnofhhheaaWK
namespace Go.Proofs.Ytmljmmnofhhheaa
open Go.RowKit

set_option maxHeartbeats 1000000 in
theorem idx_parent (pg pa : Addr) (xs : List Int) (a : Option Addr) (cap : Nat) (p : Int → Bool) (w : World) (hin : IntsIn w a xs) (hl : xs.length ≤ 1000)
    (hp : ∀ k, k < xs.length → ∀ w', Below w.heap.size w w' → Calls Try.prog 67 #[.int .i64 (xs.getD k 0), .pointer (some pg), .pointer (some pa)] w' (fun e w'' => e = .returned (.bool (p (xs.getD k 0))) ∧ Below w'.heap.size w' w'')) :
    Calls Try.prog 76 #[.slice a xs.length cap, .func (.func 67) #[] #[.pointer (some pg), .pointer (some pa)]] w (AnyPost xs p w) := by
  have HP := Lib.hid hp; have HI := Lib.hid hin; clear hp hin
  go_enter Try.func76, Try.ntmps76
  go_wp2_with fail
  go_loopw [8] (fun i wr => ∃ k : Nat, k ≤ xs.length ∧ i = .int .i64 k ∧ NoneYet xs p k ∧ Below w.heap.size w wr) (fun i _ => xs.length - (intOf i).toNat)
  case atStart => exact ⟨0, Nat.zero_le _, rfl, NoneYet.zero, Below.refl _ _⟩
  case round =>
    obtain ⟨k, hk, rfl, hny, hb⟩ := hrel
    by_cases hlt : k < xs.length
    · have HB := Lib.hid hb; have HN := Lib.hid hny; clear hny
      obtain ⟨b, off, rfl, hc⟩ := HI.out.below hb k hlt
      have HC := Lib.hid (HP.out k hlt wr hb)
      clear hb
      generalize hx : xs.getD k 0 = x at *
      have HX := Lib.hid hx; clear hx
      cases hpx : p x
      · rw [hpx] at HC
        have HPX := Lib.hid hpx; clear hpx
        go_wp2_with (first | (go_at_call 67; refine HC.out.mono ?_; rintro e w2 ⟨rfl, hb2⟩))
        go_roundw
        case rel => exact ⟨k + 1, by omega, by go_num, HN.out.next (d := 0) hlt (by rw [HX.out]; exact HPX.out), HB.out.trans (hb2.mono HB.out.size)⟩
        case measure => simp [intOf]; omega
      · rw [hpx] at HC
        have HPX := Lib.hid hpx; clear hpx
        go_wp2_with (first | (go_at_call 67; refine HC.out.mono ?_; rintro e w2 ⟨rfl, hb2⟩))
        go_ret
        exact ⟨k, rfl, by rw [any_here (d := 0) hlt (by rw [HX.out]; exact HPX.out)]; simp, HB.out.trans (hb2.mono HB.out.size)⟩
    · obtain rfl : k = xs.length := by omega
      go_wp2_with fail
      go_ret
      exact ⟨-1, rfl, by rw [hny.fin]; rfl, hb⟩
theorem con_parent (pg pa : Addr) (xs : List Int) (a : Option Addr) (cap : Nat) (p : Int → Bool) (w : World) (hin : IntsIn w a xs) (hl : xs.length ≤ 1000)
    (hp : ∀ k, k < xs.length → ∀ w', Below w.heap.size w w' → Calls Try.prog 67 #[.int .i64 (xs.getD k 0), .pointer (some pg), .pointer (some pa)] w' (fun e w'' => e = .returned (.bool (p (xs.getD k 0))) ∧ Below w'.heap.size w' w'')) :
    Calls Try.prog 61 #[.slice a xs.length cap, .func (.func 67) #[] #[.pointer (some pg), .pointer (some pa)]] w fun e w' => e = .returned (.bool (xs.any p)) ∧ Below w.heap.size w w' := by
  have HC := Lib.hid (idx_parent pg pa xs a cap p w hin hl hp)
  clear hin hp
  go_enter Try.func61, Try.ntmps61
  go_wp2_with (first | (go_at_call 76; refine HC.out.mono ?_; rintro e w2 ⟨r, rfl, hr, hb2⟩))
  go_wp2_with fail
  go_ret
  exact ⟨rfl, hb2⟩


set_option maxHeartbeats 1000000 in
theorem parent1_any (c x pg pa : Nat) (g : Gr) (a : Option Addr) (cap : Nat) (w : World) (hc : w.cell? ⟨pg, 0, none⟩ = some (.slice a g.length cap)) (hx : w.cell? ⟨pa, 0, none⟩ = some (.int .i64 x)) (hg : GraphIn w a g) (ok : OkG g) (hxl : x < g.length) :
    Calls Try.prog 67 #[.int .i64 c, .pointer (some ⟨pg, 0, none⟩), .pointer (some ⟨pa, 0, none⟩)] w fun e w' => e = .returned (.bool (!(domB g c x))) ∧ Below w.heap.size w w' := by
  have HD := Lib.hid (dominates_any g a cap c x w hg ok hxl)
  clear hg
  go_enter Try.func67, Try.ntmps67
  go_wp2_with (first | (go_at_call 43; refine HD.out.mono ?_; rintro e w3 ⟨rfl, hb3⟩))
  go_ret
  exact ⟨rfl, hb3⟩

/-- A node above another one. -/
noncomputable def aboveB (g : Gr) (b a : Nat) : Bool := decide (a ≠ b) && domB g a b
noncomputable def lastB (g : Gr) (b a : Nat) : Bool := !((setL (rs g (-1) 0)).any fun c => aboveB g b c && !(domB g c a))
/-- The nearest node above. -/
noncomputable def parentO (g : Gr) (b : Nat) : Option Nat := (setL (rs g (-1) 0)).find? fun a => aboveB g b a && lastB g b a
noncomputable def parentV (g : List (List Int)) (b : Int) : Nat := if thereE g [b] = 0 then (parentO (gN g) b.toNat).getD 0 else 0
noncomputable def parentIs (g : List (List Int)) (b : Int) : Bool := if thereE g [b] = 0 then (parentO (gN g) b.toNat).isSome else false
def ParentPost (V : Nat) (is : Bool) (E : Int) (w : World) (e : Ending) (w' : World) : Prop := e = .returned (.tuple #[.int .i64 V, .bool is, .int .i64 E]) ∧ Below w.heap.size w w'
theorem parentO_filter (g : Gr) (b : Nat) : parentO g b = (((setL (rs g (-1) 0)).filter (aboveB g b)).find? fun a => !(((setL (rs g (-1) 0)).filter (aboveB g b)).any fun c => !(domB g c a))) := by
  unfold parentO lastB
  rw [List.find?_filter]
  congr 1
  funext a
  rw [List.any_filter, Bool.decide_and, Bool.decide_eq_true, Bool.decide_eq_true]
theorem filter_take {xs : List Nat} {p : Nat → Bool} {k : Nat} (h : k < xs.length) : (xs.take (k + 1)).filter p = (xs.take k).filter p ++ (if p (xs.getD k 0) then [xs.getD k 0] else []) := by
  rw [List.take_succ_eq_append_getElem h, List.filter_append]
  have e : xs.getD k 0 = xs[k] := by rw [List.getD_eq_getElem?_getD, List.getElem?_eq_getElem h]; rfl
  rw [e]
  cases hp : p xs[k] <;> simp [hp]
/-- None so far. -/
def NotFound (xs : List Nat) (p : Nat → Bool) (k : Nat) : Prop := (xs.take k).find? p = none
theorem NotFound.zero {xs : List Nat} {p : Nat → Bool} : NotFound xs p 0 := by simp [NotFound]
theorem NotFound.next {xs : List Nat} {p : Nat → Bool} {k : Nat} (h : NotFound xs p k) (hk : k < xs.length) (hp : p (xs.getD k 0) = false) : NotFound xs p (k + 1) := by
  have e : xs.getD k 0 = xs[k] := by rw [List.getD_eq_getElem?_getD, List.getElem?_eq_getElem hk]; rfl
  unfold NotFound at *
  rw [List.take_succ_eq_append_getElem hk, List.find?_append, h]
  rw [e] at hp
  simp [hp]
theorem NotFound.found {xs : List Nat} {p : Nat → Bool} {k : Nat} (h : NotFound xs p k) (hk : k < xs.length) (hp : p (xs.getD k 0) = true) : xs.find? p = some (xs.getD k 0) := by
  have e : xs.getD k 0 = xs[k] := by rw [List.getD_eq_getElem?_getD, List.getElem?_eq_getElem hk]; rfl
  unfold NotFound at h
  have h1 : (xs.take (k + 1)).find? p = some xs[k] := by
    rw [List.take_succ_eq_append_getElem hk, List.find?_append, h]
    rw [e] at hp
    simp [hp]
  rw [e]
  have h2 : (xs.take (k + 1) ++ xs.drop (k + 1)).find? p = some xs[k] := by rw [List.find?_append, h1]; rfl
  rwa [List.take_append_drop] at h2
theorem NotFound.fin {xs : List Nat} {p : Nat → Bool} (h : NotFound xs p xs.length) : xs.find? p = none := by
  unfold NotFound at h; rwa [List.take_length] at h

theorem parent_none {o : Option Nat} (h : o = none) : o.getD 0 = 0 ∧ o.isSome = false := by rw [h]; exact ⟨rfl, rfl⟩
theorem parent_some {o : Option Nat} {x : Nat} (h : o = some x) : o.getD 0 = x ∧ o.isSome = true := by rw [h]; exact ⟨rfl, rfl⟩
theorem ret_three {a b : Nat} {c d : Bool} {v : Value} (h : a = b ∧ c = d) : Ending.returned (.tuple #[.int .i64 (a : Nat), .bool c, v]) = .returned (.tuple #[.int .i64 (b : Nat), .bool d, v]) := by rw [h.1, h.2]

set_option maxRecDepth 100000 in
set_option maxHeartbeats 2000000 in
theorem Parent_any (g0 : List (List Int)) (a : Option Addr) (cap : Nat) (b0 : Int) (w : World) (hin : RowsIn w a g0) (hs : Short g0) :
    Calls Try.prog 34 #[.slice a g0.length cap, .int .i64 b0] w (ParentPost (parentV g0 b0) (parentIs g0 b0) (thereE g0 [b0]) w) := by
  have hbl1 : Below w.heap.size w (w.alloc (.cells #[.slice a g0.length cap] 22)) := (Below.refl _ _).alloc (Nat.le_refl _) _
  have hbl : Below w.heap.size w ((w.alloc (.cells #[.slice a g0.length cap] 22)).alloc (.cells #[.int .i64 b0] 3)) := hbl1.alloc (by simp) _
  have hone := one_ints (w.alloc (.cells #[.slice a g0.length cap] 22)) b0
  rw [World.size_alloc] at hone
  have HV := Lib.hid (reachedNodes_any g0 a cap [b0] _ 1 _ (hin.below hbl) hs hone (by simp))
  by_cases hv : thereE g0 [b0] = 0
  · obtain ⟨hval, hr, hrr⟩ := there_parts hv
    have hvr := hr b0 (by simp)
    have hreach := hrr b0 (by simp)
    obtain ⟨b, rfl⟩ := Int.eq_ofNat_of_zero_le hvr.1
    rw [Int.toNat_natCast] at hreach
    have hn1 : parentV g0 b = (parentO (gN g0) b).getD 0 := by unfold parentV; rw [if_pos hv, Int.toNat_natCast]
    have hn2 : parentIs g0 b = (parentO (gN g0) b).isSome := by unfold parentIs; rw [if_pos hv, Int.toNat_natCast]
    have ok := valid_ok hval
    have hg := hin.graph hval
    have hlen : g0.length = (gN g0).length := by rw [gN_len]
    have hbn : b < (gN g0).length := by rw [gN_len]; omega
    rw [hn1, hn2]; rw [hv] at HV; rw [hv]
    rw [hlen] at HV hbl hbl1; rw [hlen]
    clear hin hs hv hn1 hn2 hlen hone hval hr hrr hvr hreach
    generalize gN g0 = g at *
    have h10 := ok.ten
    have HG := Lib.hid hg; have HOk := Lib.hid ok; have HBl := Lib.hid hbl
    have HReach : Hid (∀ w', Below w.heap.size w w' → Calls Try.prog 44 #[.slice a g.length cap, .int .i64 (-1)] w' fun e w'' => e = .returned (tenV (rs g (-1) 0)) ∧ Below w'.heap.size w' w'') := Lib.hid fun w' hb => reach_any a cap g (-1) w' (hg.below hb) ok
    have hLlt : ∀ k, k < (setL (rs g (-1) 0)).length → (setL (rs g (-1) 0)).getD k 0 < g.length := fun k hk => by
      have := (setL_mem.1 (getD_mem_any 0 hk)).2
      exact (rs_iff.1 this).lt ok.fits ok.pos
    have hLlen : (setL (rs g (-1) 0)).length ≤ 10 := setUpto_len _ 10
    have HLt := Lib.hid hLlt
    have HPO := Lib.hid (parentO_filter g b)
    clear hg hbl hLlt hbl1
    obtain ⟨i0, hi, hz0, hz1, hz2⟩ := info_parts Try.infoInt
    go_enter Try.func34, Try.ntmps34
    go_wp2_with fail
    refine HV.out.mono ?_; rintro e w1 ⟨rfl, hb1⟩
    have cg1 : w1.cell? ⟨w.heap.size, 0, none⟩ = some (.slice a g.length cap) := by rw [bc hb1 (b := w.heap.size) (by simp only [World.size_alloc]; omega)]; simp [go_sem]
    have HB1 := Lib.hid (HBl.out.trans (hb1.mono HBl.out.size))
    clear hb1 HV HBl
    go_wp2_with fail
    refine (HReach.out _ HB1.out).mono ?_; rintro e w2 ⟨rfl, hb2⟩
    have cg2 := keep cg1 hb2
    have HB2 := Lib.hid (HB1.out.trans (hb2.mono HB1.out.size))
    clear hb2 cg1 HB1
    go_wp2_with fail
    refine (list_any _ _).mono ?_; rintro e w3 ⟨v3, rfl, ⟨la, lcap, rfl, hl⟩, hb3⟩
    have cg3 := keep cg2 hb3
    have HB3 := Lib.hid (HB2.out.trans (hb3.mono HB2.out.size)); have HL := Lib.hid hl
    clear hb3 cg2 HB2 hl
    generalize setL (rs g (-1) 0) = L at *
    go_wp2_with fail
    go_loopw [8, 24] (fun tv i wr => ∃ k : Nat, k ≤ L.length ∧ i = .int .i64 k ∧ wr.ownsRow w3.heap.size 3 1 tv ((L.take k).filter (aboveB g b)).length (encN ((L.take k).filter (aboveB g b))) ∧ Below w3.heap.size w3 wr) (fun _ i _ => L.length - (intOf i).toNat)
    case atStart => exact ⟨0, Nat.zero_le _, rfl, World.ownsRow_nil _ _ _ _, Below.refl _ _⟩
    case round =>
      obtain ⟨k, hk, rfl, hown, hbl⟩ := hrel
      by_cases hlt : k < L.length
      · obtain ⟨b2, off, rfl, hx⟩ := HL.out.below hbl k hlt
        have hxl := HLt.out k hlt
        have hft := filter_take (p := aboveB g b) hlt
        have hfl : ((L.take k).filter (aboveB g b)).length ≤ 10 := by
          have h1 := List.length_filter_le (aboveB g b) (L.take k)
          have h2 : (L.take k).length ≤ L.length := by simp; omega
          omega
        have hbw := HB3.out.trans (hbl.mono HB3.out.size)
        have HDom := Lib.hid (dominates_any g a cap (L.getD k 0) b wr (HG.out.below hbw) HOk.out hbn)
        have cgr := keep cg3 hbl
        have HO := Lib.hid hown; have HBl := Lib.hid hbl
        have hab : aboveB g b (L.getD k 0) = (decide (L.getD k 0 ≠ b) && domB g (L.getD k 0) b) := rfl
        clear hown hbl hbw
        generalize (L.take k).filter (aboveB g b) = E at *
        generalize L.getD k 0 = x at *
        by_cases hxb : x = b
        · have hxb' : ((x : Int) != (b : Int)) = false := by simp; omega
          have HF : Hid ((L.take (k + 1)).filter (aboveB g b) = E) := Lib.hid (by rw [hft, hab]; simp [hxb])
          clear hft hab hxb
          go_wp2_with fail
          go_roundw
          case rel => exact ⟨k + 1, by omega, by go_num, by rw [HF.out]; exact HO.out, HBl.out⟩
          case measure => simp [intOf]; omega
        · have hxb' : ((x : Int) != (b : Int)) = true := by simp; omega
          cases hd : domB g x b
          · rw [hd] at HDom
            have HF : Hid ((L.take (k + 1)).filter (aboveB g b) = E) := Lib.hid (by rw [hft, hab, hd]; simp)
            clear hft hab hxb hd
            go_wp2_with (first | (go_at_call 43; refine HDom.out.mono ?_; rintro e w4 ⟨rfl, hb4⟩))
            have HO3 := Lib.hid (HO.out.kept (row := none) ⟨hb4.os, hb4.tape, hb4.output, hb4.size, fun k hk _ => hb4.block k hk⟩ (by cases hv : Value.ownBlock _ <;> simp))
            go_roundw
            case rel => exact ⟨k + 1, by omega, by go_num, by rw [HF.out]; exact HO3.out, HBl.out.trans (hb4.mono HBl.out.size)⟩
            case measure => simp [intOf]; omega
          · rw [hd] at HDom
            have HF : Hid ((L.take (k + 1)).filter (aboveB g b) = E ++ [x]) := Lib.hid (by rw [hft, hab, hd]; simp [hxb])
            clear hft hab hxb hd
            go_wp2_with fail
            refine HDom.out.mono ?_; rintro e w4 ⟨rfl, hb4⟩
            have HO3 := Lib.hid (HO.out.kept (row := none) ⟨hb4.os, hb4.tape, hb4.output, hb4.size, fun k hk _ => hb4.block k hk⟩ (by cases hv : Value.ownBlock _ <;> simp))
            have HB4 := Lib.hid (HBl.out.trans (hb4.mono HBl.out.size))
            clear hb4
            go_wp2_with (at_builtin; refine wpList_append_own _ rfl _ _ 32 rfl w3.heap.size 3 i0 (.int .i64 0) 1 8 Try.underlying32 hi hz0 hz1 hz2 rfl (by decide) _ _ _ rfl (HO3.out.alloc _) ⟨w4.heap.size, 0, none⟩ 1 1 [.int .i64 x] rfl rfl (cell_one_new _ _ _) one_int (by unfold maxLen; omega) (by omega) (by have := HB4.out.size; simp; omega) ?_; intro v' w5 hown' hgrow _)
            have hb1 := (HB4.out.alloc HB4.out.size _).grown hgrow (by have := HB4.out.size; simp; omega) (fun k hk => (HO3.out.lt k hk).1)
            have HO5 := Lib.hid hown'; have HB5 := Lib.hid hb1
            clear hown' hgrow hb1
            go_wp2_with fail
            go_roundw
            case rel => exact ⟨k + 1, by omega, by go_num, by rw [HF.out, encN_snoc, List.length_append]; exact HO5.out, HB5.out⟩
            case measure => simp [intOf]; omega
      · obtain rfl : k = L.length := by omega
        rw [List.take_length] at hown
        obtain ⟨ua, uc, rfl⟩ := owns_form hown
        have hN := owns_bound hown
        have hUlt : ∀ k, k < (L.filter (aboveB g b)).length → (L.filter (aboveB g b)).getD k 0 < g.length := fun k hk => by
          have h1 := List.mem_filter.1 (getD_mem_any 0 hk)
          obtain ⟨m, hm, e⟩ := List.mem_iff_getElem.1 h1.1
          have h2 := HLt.out m hm
          rw [List.getD_eq_getElem?_getD, List.getElem?_eq_getElem hm] at h2
          rw [← e]; exact h2
        have hUl : (L.filter (aboveB g b)).length ≤ 10 := Nat.le_trans (List.length_filter_le _ _) hLlen
        have cg4 := keep cg3 hbl
        have HB4 := Lib.hid (HB3.out.trans (hbl.mono HB3.out.size)); have HN := Lib.hid hN; have HUlt := Lib.hid hUlt
        clear hown hbl hN hUlt hlt
        generalize L.filter (aboveB g b) = U at *
        generalize hp : (fun a => !(U.any fun c => !(domB g c a))) = p at *
        have HP : Hid (∀ x, p x = !(U.any fun c => !(domB g c x))) := Lib.hid fun x => by rw [← hp]
        clear hp
        have HFound : Hid (∀ k, NotFound U p k → k < U.length → p (U.getD k 0) = true → parentO g b = some (U.getD k 0)) := Lib.hid fun k h1 h2 h3 => by rw [HPO.out]; exact h1.found h2 h3
        have HNone : Hid (NotFound U p U.length → parentO g b = none) := Lib.hid fun h => by rw [HPO.out]; exact h.fin
        clear HPO HL
        generalize hwr : wr = w4 at *
        clear hwr
        go_wp2_with fail
        go_loopw [44] (fun i wr => ∃ k : Nat, k ≤ U.length ∧ i = .int .i64 k ∧ NotFound U p k ∧ Below w4.heap.size w4 wr) (fun i _ => U.length - (intOf i).toNat)
        case atStart => exact ⟨0, Nat.zero_le _, rfl, NotFound.zero, Below.refl _ _⟩
        case round =>
          obtain ⟨k, hk, rfl, hnf, hbl⟩ := hrel
          by_cases hlt : k < U.length
          · obtain ⟨b2, off, rfl, hx⟩ := HN.out.below hbl k hlt
            have hxl := HUlt.out k hlt
            have hal : Below wr.heap.size wr (wr.alloc (.cells #[.int .i64 ((U.getD k 0 : Nat) : Int)] 3)) := (Below.refl _ _).alloc (Nat.le_refl _) _
            have hb5 := hbl.trans (hal.mono hbl.size)
            have cg5 := keep cg4 hb5
            have hg5 := HG.out.below (HB4.out.trans (hb5.mono HB4.out.size))
            have hcon := con_parent ⟨w.heap.size, 0, none⟩ ⟨wr.heap.size, 0, none⟩ (ints U) (some ⟨b2, off, none⟩) uc (fun c => !(domB g c.toNat (U.getD k 0))) _ (HN.out.below hb5).ints (by rw [ints_len]; omega) (fun j hj w' hb6 => by
              rw [ints_getD, Int.toNat_natCast]
              exact parent1_any (U.getD j 0) (U.getD k 0) w.heap.size wr.heap.size g a cap w' (keep cg5 hb6) (keep (by simp [go_sem]) hb6) (hg5.below hb6) HOk.out hxl)
            rw [ints_len] at hcon
            have hany : (ints U).any (fun c => !(domB g c.toNat (U.getD k 0))) = U.any (fun c => !(domB g c (U.getD k 0))) := by
              unfold ints; rw [List.any_map]; congr 1
            rw [hany] at hcon
            have HCon := Lib.hid hcon; have HB5 := Lib.hid hb5
            have HFd := Lib.hid (HFound.out k hnf hlt); have HNx := Lib.hid (fun h => hnf.next (p := p) hlt h)
            have hpx := HP.out (U.getD k 0)
            have hszl := block_lt_of_cell hx
            clear hcon hany hg5 cg5 hb5 hal hbl hnf
            generalize U.getD k 0 = x at *
            cases ha : U.any (fun c => !(domB g c x))
            · rw [ha] at HCon hpx
              have HPO := Lib.hid (parent_some (HFd.out (by rw [hpx]; rfl)))
              clear ha hpx HFd HNx
              go_wp2_with fail
              refine HCon.out.mono ?_; rintro e w6 ⟨rfl, hb6⟩
              have hc6 := bc hb6 (b := wr.heap.size) (by simp)
              have HB6 := Lib.hid (HB4.out.trans ((HB5.out.trans (hb6.mono HB5.out.size)).mono HB4.out.size))
              clear hb6
              go_wp2_with fail
              go_ret3
              exact ⟨ret_three ⟨HPO.out.1.symm, HPO.out.2.symm⟩, HB6.out⟩
            · rw [ha] at HCon hpx
              have HNx1 := Lib.hid (HNx.out (by rw [hpx]; rfl))
              clear ha hpx HFd HNx
              go_wp2_with fail
              refine HCon.out.mono ?_; rintro e w6 ⟨rfl, hb6⟩
              have HB6 := Lib.hid (HB5.out.trans (hb6.mono HB5.out.size))
              clear hb6
              go_wp2_with fail
              go_roundw
              case rel => exact ⟨k + 1, by omega, by go_num, HNx1.out, HB6.out⟩
              case measure => simp [intOf]; omega
          · obtain rfl : k = U.length := by omega
            have HPO := Lib.hid (parent_none (HNone.out hnf)); have HB5 := Lib.hid (HB4.out.trans (hbl.mono HB4.out.size))
            clear hnf hbl
            go_wp2_with fail
            go_ret3
            exact ⟨ret_three ⟨HPO.out.1.symm, HPO.out.2.symm⟩, HB5.out⟩
  · have hn1 : parentV g0 b0 = 0 := by unfold parentV; rw [if_neg hv]
    have hn2 : parentIs g0 b0 = false := by unfold parentIs; rw [if_neg hv]
    rw [hn1, hn2]
    generalize thereE g0 [b0] = V at *
    have hvb : (V != 0) = true := by simpa using hv
    clear hv hn1 hn2
    go_enter Try.func34, Try.ntmps34
    go_wp2_with fail
    refine HV.out.mono ?_; rintro e w1 ⟨rfl, hb1⟩
    have hb1 := hbl.trans (hb1.mono hbl.size)
    go_wp2_with fail
    go_ret3
    exact ⟨rfl, hb1⟩
end Go.Proofs.Ytmljmmnofhhheaa
