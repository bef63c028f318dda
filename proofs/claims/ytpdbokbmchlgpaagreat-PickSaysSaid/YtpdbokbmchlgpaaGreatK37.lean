/- Packed of several texts. -/
import Derived.Test.YtpdbokbmchlgpaaGreatK30
import Derived.Test.YtpdbokbmchlgpaaGreatK31
import Derived.Test.YtpdbokbmchlgpaaGreatK36
import Derived.Test.YtpdbokbmchlgpaaGreatK13
import Derived.Test.YtpdbokbmchlgpaaGreatK03
import Derived.Test.YtpdbokbmchlgpaaGreatK00
import Derived.Test.YtpdbokbmchlgpaaGreatK07
import Derived.Deep.RegionHeld3
import Derived.Laws.BitsAllLaws
import Derived.Deep.OwnRows
namespace Go.Proofs.YtpdbokbmchlgpaaGreat.PK
open Go.RowKit

theorem head_slot {F : Fun} (h : headB F = true) {k : Nat} (hk : k < F.sl.length) : 1 ≤ F.sl.getD k 0 ∧ F.sl.getD k 0 ≤ 8 := by
  unfold headB at h
  simp only [Bool.and_eq_true] at h
  exact of_decide_eq_true (List.all_eq_true.1 h.2 _ (getDm hk))
end Go.Proofs.YtpdbokbmchlgpaaGreat.PK
namespace Go.Proofs.YtpdbokbmchlgpaaGreat.PK
open Go.RowKit

def badL (l : List Cd) : Bool := l.isEmpty || (List.range l.length).any fun i => isLastB (atC l i).op != decide ((i : Int) = l.length - 1)
def tooBig (regs : Int) (ls : List (List Cd)) : Prop := regs < 0 ∨ 200 < regs ∨ ls.length < 1 ∨ 400 < ls.length ∨ 400 < sumL ls
instance (regs : Int) (ls : List (List Cd)) : Decidable (tooBig regs ls) := by unfold tooBig; infer_instance
/-- The first error of a program. -/
def progErr (regs : Int) (ls : List (List Cd)) : Int :=
  if tooBig regs ls then 3
  else if ls.any (fun l => l.any fun x => !isCodeB x regs ls.length) then 1
  else if ls.any badL then 7 else 0
theorem anyB_true {l : List (List Cd)} {p : List Cd → Bool} (k : Nat) (hk : k < l.length) (h : p (atB l k) = true) : l.any p = true := by
  rw [List.any_eq_true]
  exact ⟨_, by rw [atB_get hk]; exact List.getElem_mem hk, h⟩
theorem anyB_false {l : List (List Cd)} {p : List Cd → Bool} (h : ∀ k, k < l.length → p (atB l k) = false) : l.any p = false := by
  rw [List.any_eq_false]
  intro x hx
  obtain ⟨k, hk, rfl⟩ := List.mem_iff_getElem.1 hx
  have := h k hk
  rw [atB_get hk] at this
  simp [this]
theorem badL_true {l : List Cd} (i : Nat) (hi : i < l.length) (h : isLastB (atC l i).op ≠ decide ((i : Int) = l.length - 1)) : badL l = true := by
  unfold badL
  rw [Bool.or_eq_true]
  right
  rw [List.any_eq_true]
  exact ⟨i, List.mem_range.2 hi, by simpa using h⟩
theorem badL_nil {l : List Cd} (h : l.length = 0) : badL l = true := by
  rw [List.eq_nil_of_length_eq_zero h]; rfl
theorem badL_false {l : List Cd} (h0 : 0 < l.length) (h : ∀ i, i < l.length → isLastB (atC l i).op = decide ((i : Int) = l.length - 1)) : badL l = false := by
  unfold badL
  rw [Bool.or_eq_false_iff]
  refine ⟨by cases l <;> simp_all, ?_⟩
  rw [List.any_eq_false]
  intro i hi
  rw [h i (List.mem_range.1 hi)]; simp
theorem isLast_to (op : Int) (w : World) : Calls Tryz.prog 92 #[.int .i64 op] w fun e w' => e = .returned (.bool (isLastB op)) ∧ Below w.heap.size w w' := by
  refine (isLast_any op w).mono ?_
  rintro e w' ⟨rfl, rfl⟩
  exact ⟨rfl, Below.refl _ _⟩

set_option maxRecDepth 100000 in
set_option maxHeartbeats 2000000 in
theorem Validate_any (regs : Int) (ls : List (List Cd)) (bl : Option Addr) (cap : Nat) (w : World) (hin : BlkIn w bl ls) (hl : ls.length ≤ 1099511627776) (hm : ∀ k, k < ls.length → (atB ls k).length ≤ 1099511627776) :
    Calls Tryz.prog 36 #[.agg #[.int .i64 regs, .slice bl ls.length cap]] w fun e w' => e = .returned (.int .i64 (progErr regs ls)) ∧ Below w.heap.size w w' := by
  have HI := Lib.hid hin; have HM := Lib.hid hm
  have HS := Lib.hid fun w' (h : BlkIn w' bl ls) h2 => size_any regs ls bl cap w' h h2 hm
  clear hin hm
  go_enter Tryz.func36, Tryz.ntmps36
  go_upto_region 1 with (fail)
  generalize hw0 : w.alloc _ = w0
  generalize hq : w.heap.size = q
  have hb0 : Below w.heap.size w w0 := by rw [← hw0]; exact (Below.refl _ _).alloc (Nat.le_refl _) _
  have h0 : w0.cell? ⟨q, 0, none⟩ = some (.int .i64 regs) := by subst hw0 hq; simp [go_sem]
  have h1 : w0.cell? ⟨q, 1, none⟩ = some (.slice bl ls.length cap) := by subst hw0 hq; simp [go_sem]
  clear hw0 hq
  have HB0 := Lib.hid hb0; clear hb0
  have HE3 : Hid (tooBig regs ls → progErr regs ls = 3) := Lib.hid fun h => if_pos h
  by_cases g1 : regs < 0
  · have HR := Lib.hid (HE3.out (.inl g1))
    go_wp2_with fail
    go_ret
    exact ⟨ret_int HR.out.symm, HB0.out⟩
  by_cases g2 : 200 < regs
  · have HR := Lib.hid (HE3.out (.inr (.inl g2)))
    go_wp2_with fail
    go_ret
    exact ⟨ret_int HR.out.symm, HB0.out⟩
  by_cases g3 : ls.length < 1
  · have HR := Lib.hid (HE3.out (.inr (.inr (.inl g3))))
    go_wp2_with fail
    go_ret
    exact ⟨ret_int HR.out.symm, HB0.out⟩
  by_cases g4 : 400 < ls.length
  · have HR := Lib.hid (HE3.out (.inr (.inr (.inr (.inl g4)))))
    go_wp2_with fail
    go_ret
    exact ⟨ret_int HR.out.symm, HB0.out⟩
  have HSz : Hid (sumL ls ≤ 400 * 1099511627776) := Lib.hid (by
    have h := sumL_small HM.out ls.length (Nat.le_refl _)
    rw [List.take_length] at h
    exact Nat.le_trans h (Nat.mul_le_mul_right _ (by omega)))
  by_cases g5 : 400 < sumL ls
  · have HR := Lib.hid (HE3.out (.inr (.inr (.inr (.inr g5)))))
    have hs := HSz.out
    go_wp2_with fail
    refine (HS.out _ (HI.out.below HB0.out) (by omega)).mono ?_
    rintro e w1 ⟨rfl, hb1⟩
    have HB1 := Lib.hid (HB0.out.trans (hb1.mono HB0.out.size))
    clear hb1
    go_wp2_with fail
    go_ret
    exact ⟨ret_int HR.out.symm, HB1.out⟩
  have HP : Hid (progErr regs ls = if ls.any (fun l => l.any fun x => !isCodeB x regs ls.length) then 1 else if ls.any badL then 7 else 0) := Lib.hid (if_neg (by unfold tooBig; omega))
  clear HE3
  have hs := HSz.out
  clear HSz
  go_wp2_with fail
  refine (HS.out _ (HI.out.below HB0.out) (by omega)).mono ?_
  rintro e w1 ⟨rfl, hb1⟩
  have HB1 := Lib.hid (HB0.out.trans (hb1.mono HB0.out.size))
  have H0 := Lib.hid (keep h0 hb1)
  have H1 := Lib.hid (keep h1 hb1)
  have HV := Lib.hid fun x w' (h : Below w1.heap.size w1 w') => vcl_any x regs bl ls.length cap q w' (keep H0.out h) (keep H1.out h)
  have hh0 := H0.out; have hh1 := H1.out
  clear h0 h1 hb1 HS
  generalize hs5 : sumL ls = sl at *
  clear hs5
  go_wp2_with fail
  clear hh0 hh1 hs g5
  have HI1 := Lib.hid (HI.out.below HB1.out)
  have HC := Lib.hid fun (a : Option Addr) (l : List Cd) cp w' (h : Below w1.heap.size w1 w') h2 h3 => conC_any 90 #[.pointer (some ⟨q, 0, none⟩)] (fun _ _ => rfl) (fun x => !isCodeB x regs ls.length) l a cp w' h2 h3 (fun k W _ hW => HV.out (atC l k) W (h.trans (hW.mono h.size)))
  clear HI
  go_loopw [36] (fun i wr => ∃ k : Nat, k ≤ ls.length ∧ i = .int .i64 k ∧ (∀ j, j < k → ((atB ls j).any fun x => !isCodeB x regs ls.length) = false) ∧ Below w1.heap.size w1 wr) (fun i _ => ls.length - (intOf i).toNat)
  case atStart => exact ⟨0, Nat.zero_le _, rfl, fun j hj => absurd hj (Nat.not_lt_zero _), Below.refl _ _⟩
  case round =>
    obtain ⟨k, hk, rfl, hny, hb⟩ := hrel
    have HB := Lib.hid hb; have HN := Lib.hid hny; clear hny
    by_cases hlt : k < ls.length
    · obtain ⟨b, off, a, cp, e0, hc, hi⟩ := HI1.out.below hb k hlt
      have HK := Lib.hid (HC.out a (atB ls k) cp wr hb hi (by have := HM.out k hlt; omega))
      clear hb hi
      have hm3 := HM.out k hlt
      subst e0
      cases hany : (atB ls k).any fun x => !isCodeB x regs ls.length
      · rw [hany] at HK
        have HA := Lib.hid hany; clear hany
        generalize hbl : (atB ls k).length = m at *
        clear hbl
        go_wp2_with fail
        refine HK.out.mono ?_; rintro e w2 ⟨rfl, hb2⟩
        have HB2 := Lib.hid (HB.out.trans (hb2.mono HB.out.size))
        clear hb2
        go_wp2_with fail
        go_roundw
        case rel => exact ⟨k + 1, by omega, by go_num, fun j hj => by
          by_cases e : j = k
          · rw [e]; exact HA.out
          · exact HN.out j (by omega), HB2.out⟩
        case measure => simp [intOf]; omega
      · rw [hany] at HK
        have HA := Lib.hid (HP.out.trans (if_pos (anyB_true (p := fun l => l.any fun x => !isCodeB x regs ls.length) k hlt hany))); clear hany
        generalize hbl : (atB ls k).length = m at *
        clear hbl
        go_wp2_with fail
        refine HK.out.mono ?_; rintro e w2 ⟨rfl, hb2⟩
        have HB2 := Lib.hid (HB.out.trans (hb2.mono HB.out.size))
        clear hb2
        go_wp2_with fail
        go_ret
        exact ⟨ret_int HA.out.symm, HB1.out.trans (HB2.out.mono HB1.out.size)⟩
    · clear hb
      have HP2 := Lib.hid (HP.out.trans (if_neg (by
        rw [anyB_false (p := fun l => l.any fun x => !isCodeB x regs ls.length) fun j hj => HN.out j (by omega)]
        exact Bool.false_ne_true)))
      clear HP HN
      have hh1 := keep H1.out HB.out
      have HBW := Lib.hid (HB1.out.trans (HB.out.mono HB1.out.size))
      have HI2 := Lib.hid (HI1.out.below HB.out)
      clear HC HV H0 H1 HI1
      go_wp2_with fail
      clear hh1
      go_loopw [47] (fun i wr2 => ∃ k : Nat, k ≤ ls.length ∧ i = .int .i64 k ∧ (∀ j, j < k → badL (atB ls j) = false) ∧ Below wr.heap.size wr wr2) (fun i _ => ls.length - (intOf i).toNat)
      case atStart => exact ⟨0, Nat.zero_le _, rfl, fun j hj => absurd hj (Nat.not_lt_zero _), Below.refl _ _⟩
      case round =>
        obtain ⟨k, hk, rfl, hny, hb⟩ := hrel
        have HB3 := Lib.hid hb; have HN := Lib.hid hny; clear hny
        by_cases hlt : k < ls.length
        · obtain ⟨b, off, a, cp, e0, hc, hi⟩ := HI2.out.below hb k hlt
          have HIC := Lib.hid hi
          clear hb hi
          have hm3 := HM.out k hlt
          subst e0
          have HBad : Hid (badL (atB ls k) = true → progErr regs ls = 7) := Lib.hid fun h => HP2.out.trans (if_pos (anyB_true (p := badL) k hlt h))
          have HBn := Lib.hid fun h => HBad.out (badL_nil (l := atB ls k) h)
          have HBt := Lib.hid fun i h1 h2 => HBad.out (badL_true (l := atB ls k) i h1 h2)
          have HBf := Lib.hid (badL_false (l := atB ls k))
          clear HBad
          generalize hl0 : atB ls k = l0 at *
          have HL0 := Lib.hid hl0; clear hl0
          go_wp2_with fail
          go_loopw [53] (fun i wr3 => ∃ j : Nat, j ≤ l0.length ∧ i = .int .i64 j ∧ (∀ i, i < j → isLastB (atC l0 i).op = decide ((i : Int) = l0.length - 1)) ∧ Below wr.heap.size wr wr3) (fun i _ => l0.length - (intOf i).toNat)
          case atStart => exact ⟨0, Nat.zero_le _, rfl, fun j hj => absurd hj (Nat.not_lt_zero _), Below.refl _ _⟩
          case round =>
            obtain ⟨j, hj, rfl, hgood, hb⟩ := hrel
            have HB4 := Lib.hid hb; have HG := Lib.hid hgood; clear hgood
            by_cases hjl : j < l0.length
            · obtain ⟨b2, off2, rfl, hc2⟩ := HIC.out.below hb j hjl
              have c0 := hc2.c0
              clear hc2 hb
              have HT := Lib.hid (HBt.out j hjl)
              generalize hop : (atC l0 j).op = op at *
              have HOP := Lib.hid hop; clear hop
              go_wp2_with fail
              refine (isLast_to op _).mono ?_; rintro e w5 ⟨rfl, hb5⟩
              have HB5 := Lib.hid (HB4.out.trans (hb5.mono HB4.out.size))
              clear hb5
              by_cases he : isLastB op = decide ((j : Int) = l0.length - 1)
              · have HE := Lib.hid he
                rw [he]; clear he
                by_cases hjn : (j : Int) = l0.length - 1
                · have hd : decide ((j : Int) = l0.length - 1) = true := decide_eq_true hjn
                  go_wp2_with fail
                  go_roundw
                  case rel => exact ⟨j + 1, by omega, by go_num, fun i hi => by
                    by_cases e : i = j
                    · rw [e, HOP.out]; exact HE.out
                    · exact HG.out i (by omega), HB5.out⟩
                  case measure => simp [intOf]; omega
                · have hd : decide ((j : Int) = l0.length - 1) = false := decide_eq_false hjn
                  go_wp2_with fail
                  go_roundw
                  case rel => exact ⟨j + 1, by omega, by go_num, fun i hi => by
                    by_cases e : i = j
                    · rw [e, HOP.out]; exact HE.out
                    · exact HG.out i (by omega), HB5.out⟩
                  case measure => simp [intOf]; omega
              · have HE := Lib.hid (HT.out he)
                cases hx : isLastB op
                · rw [hx] at he
                  have hjn : (j : Int) = l0.length - 1 := by
                    rcases Decidable.em ((j : Int) = l0.length - 1) with h | h
                    · exact h
                    · exact absurd (decide_eq_false h).symm he
                  clear he
                  go_wp2_with fail
                  go_ret
                  exact ⟨ret_int HE.out.symm, HBW.out.trans ((HB3.out.trans (HB5.out.mono HB3.out.size)).mono HBW.out.size)⟩
                · rw [hx] at he
                  have hjn : ¬ (j : Int) = l0.length - 1 := fun h => he (decide_eq_true h).symm
                  have hd : ((j : Int) == l0.length - 1) = false := by simpa using hjn
                  clear he
                  go_wp2_with fail
                  go_ret
                  exact ⟨ret_int HE.out.symm, HBW.out.trans ((HB3.out.trans (HB5.out.mono HB3.out.size)).mono HBW.out.size)⟩
            · clear hb
              by_cases hz : l0.length = 0
              · have HE := Lib.hid (HBn.out hz)
                go_wp2_with fail
                go_ret
                exact ⟨ret_int HE.out.symm, HBW.out.trans ((HB3.out.trans (HB4.out.mono HB3.out.size)).mono HBW.out.size)⟩
              · have HBL := Lib.hid (HBf.out (by omega) fun i hi => HG.out i (by omega))
                go_wp2_with fail
                go_roundw
                case rel => exact ⟨k + 1, by omega, by go_num, fun j hj => by
                  by_cases e : j = k
                  · rw [e, HL0.out]; exact HBL.out
                  · exact HN.out j (by omega), HB3.out.trans (HB4.out.mono HB3.out.size)⟩
                case measure => simp [intOf]; omega
        · clear hb
          have HF := Lib.hid (HP2.out.trans (if_neg (by
            rw [anyB_false (p := badL) fun j hj => HN.out j (by omega)]
            exact Bool.false_ne_true)))
          go_wp2_with fail
          go_ret
          exact ⟨ret_int HF.out.symm, HBW.out.trans (HB3.out.mono HBW.out.size)⟩
end Go.Proofs.YtpdbokbmchlgpaaGreat.PK
namespace Go.Proofs.YtpdbokbmchlgpaaGreat.PK
open Go.RowKit

end Go.Proofs.YtpdbokbmchlgpaaGreat.PK
namespace Go.Proofs.YtpdbokbmchlgpaaGreat.PK
open Go.RowKit

end Go.Proofs.YtpdbokbmchlgpaaGreat.PK
namespace Go.Proofs.YtpdbokbmchlgpaaGreat.PK
open Go.RowKit

def encB (l : List Int) : List Value := l.map fun x => .int .u8 x
theorem encB_len (l : List Int) : (encB l).length = l.length := by simp [encB]
theorem encB_get {l : List Int} {k : Nat} (h : k < l.length) : (encB l)[k]? = some (.int .u8 (l.getD k 0)) := by
  simp [encB, List.getD_eq_getElem?_getD, h]
theorem encB_set (l : List Int) (k : Nat) (x : Int) : encB (l.set k x) = (encB l).set k (.int .u8 x) := by simp [encB]
/-- The cells of a slice are these bytes. -/
def BIn (w : World) (a : Option Addr) (l : List Int) : Prop :=
  ∀ k, k < l.length → ∃ b off, a = some ⟨b, off, none⟩ ∧ w.cell? ⟨b, off + k, none⟩ = some (.int .u8 (l.getD k 0))
theorem BIn.below {w w' : World} {a : Option Addr} {l : List Int} (h : BIn w a l) (hb : Below w.heap.size w w') : BIn w' a l := fun k hk => by
  obtain ⟨b, off, rfl, hc⟩ := h k hk
  exact ⟨b, off, rfl, keep hc hb⟩
theorem bin_owns {w : World} {B g n c : Nat} {e : TypeId} {l : List Int} (h : w.ownsRow B e 1 (.slice (some ⟨g, 0, none⟩) n c) n (encB l)) : BIn w (some ⟨g, 0, none⟩) l := fun k hk => by
  have hl := h.1
  rw [encB_len] at hl
  obtain ⟨g', cap, ev, _, _, _, _, hc, _⟩ := owns_cells h (by omega)
  simp only [Value.slice.injEq, Option.some.injEq, Addr.mk.injEq, and_true, true_and] at ev
  obtain ⟨rfl, rfl⟩ := ev
  exact ⟨g, 0, rfl, by rw [Nat.zero_add]; exact hc k _ (encB_get hk)⟩
theorem getD_b {l : List Int} (h : ∀ x ∈ l, isB x) (k : Nat) : isB (l.getD k 0) := by
  rw [List.getD_eq_getElem?_getD]
  by_cases hk : k < l.length
  · rw [List.getElem?_eq_getElem hk]; exact h _ (List.getElem_mem hk)
  · rw [List.getElem?_eq_none (by omega)]; exact ⟨by decide, by decide⟩
theorem ret_u' {a b : Int} (h : a = b) : Ending.returned (.int .u32 a) = .returned (.int .u32 b) := by rw [h]
set_option maxRecDepth 100000 in
set_option maxHeartbeats 2000000 in
theorem read_any (mem : List Int) (a : Option Addr) (cap at0 many : Nat) (w : World) (hin : BIn w a mem) (hB : ∀ x ∈ mem, isB x) (hl : mem.length ≤ 1000000) (hat : at0 + many ≤ mem.length) :
    Calls Tryz.prog 30 #[.slice a mem.length cap, .int .i64 at0, .int .i64 many] w fun e w' => e = .returned (.int .u32 (rdF mem at0 many)) ∧ w = w' := by
  have HI := Lib.hid hin
  have HBy := Lib.hid (fun k => getD_b hB k)
  have HW := Lib.hid (fun d => rdD_w mem at0 many d)
  clear hin hB
  go_enter Tryz.func30, Tryz.ntmps30
  go_wp2_with fail
  go_loopw [7, 8] (fun n i wr => ∃ d j : Nat, d + j = many ∧ i = .int .i64 ((j : Int) - 1) ∧ n = .int .u32 (rdD mem at0 many d) ∧ w = wr) (fun _ i _ => (intOf i + 1).toNat)
  case atStart => exact ⟨0, many, by omega, by go_num, rfl, by trivial⟩
  case round =>
    obtain ⟨d, j, hdj, rfl, rfl, rfl⟩ := hrel
    by_cases hj0 : j = 0
    · subst hj0
      obtain rfl : d = many := by omega
      have hj : ¬ (0 : Int) ≤ ((0 : Nat) : Int) - 1 := by omega
      go_wp2_with fail
      go_ret
      exact ⟨ret_u' rfl, rfl⟩
    · obtain ⟨m, rfl⟩ : ∃ m, j = m + 1 := ⟨j - 1, by omega⟩
      have hjm : (((m + 1 : Nat) : Int) - 1) = (m : Int) := by omega
      rw [hjm]
      obtain ⟨b, off, rfl, hc⟩ := HI.out (at0 + m) (by omega)
      have hby := HBy.out (at0 + m)
      have hw := HW.out d
      have HN : Hid (rdD mem at0 many (d + 1) = bits .or .u32 (rdD mem at0 many d * 256 % 4294967296) (mem.getD (at0 + m) 0)) := Lib.hid (by
        show bits _ _ _ (mem.getD (at0 + (many - (d + 1))) 0) = _
        rw [show many - (d + 1) = m by omega])
      have hix : ((at0 : Int) + (m : Int)).toNat = at0 + m := by omega
      have hil : (at0 : Int) + (m : Int) < (mem.length : Int) := by omega
      have hin0 : (0 : Int) ≤ (at0 : Int) + (m : Int) := by omega
      obtain ⟨hw0, hw1⟩ := hw
      obtain ⟨hb0, hb1⟩ := hby
      generalize mem.getD (at0 + m) 0 = x at *
      generalize rdD mem at0 many d = n at *
      have hm0 : (0 : Int) ≤ (m : Int) := by omega
      go_wp2_with fail
      go_roundw
      case rel => exact ⟨d + 1, m, by omega, by go_num, by rw [HN.out], by trivial⟩
      case measure => simp [intOf]
end Go.Proofs.YtpdbokbmchlgpaaGreat.PK
namespace Go.Proofs.YtpdbokbmchlgpaaGreat.PK
open Go.RowKit

theorem flags (op : Int) (h : 0 ≤ op ∧ op ≤ 27) :
    (fD op = true ∧ fA op = false ∧ fB op = false ∧ fI op = true ∧ fT op = false ∧ fM op = false) ∨
    (fD op = true ∧ fA op = true ∧ fB op = false ∧ fI op = false ∧ fT op = false ∧ fM op = false) ∨
    (fD op = true ∧ fA op = true ∧ fB op = true ∧ fI op = false ∧ fT op = false ∧ fM op = false) ∨
    (fD op = true ∧ fA op = true ∧ fB op = false ∧ fI op = true ∧ fT op = false ∧ fM op = true) ∨
    (fD op = false ∧ fA op = true ∧ fB op = true ∧ fI op = true ∧ fT op = false ∧ fM op = true) ∨
    (fD op = false ∧ fA op = false ∧ fB op = false ∧ fI op = false ∧ fT op = true ∧ fM op = false) ∨
    (fD op = false ∧ fA op = true ∧ fB op = false ∧ fI op = false ∧ fT op = true ∧ fM op = false) ∨
    (fD op = false ∧ fA op = false ∧ fB op = false ∧ fI op = false ∧ fT op = false ∧ fM op = false) := by
  have hc : op = 0 ∨ op = 1 ∨ (2 ≤ op ∧ op ≤ 17) ∨ (18 ≤ op ∧ op ≤ 20) ∨ (21 ≤ op ∧ op ≤ 23) ∨ op = 24 ∨ op = 25 ∨ (26 ≤ op ∧ op ≤ 27) := by omega
  unfold fD fA fB fI fT fM
  rcases hc with h | h | h | h | h | h | h | h
  · exact .inl ⟨decide_eq_true (by omega), decide_eq_false (by omega), decide_eq_false (by omega), decide_eq_true (by omega), decide_eq_false (by omega), decide_eq_false (by omega)⟩
  · exact .inr (.inl ⟨decide_eq_true (by omega), decide_eq_true (by omega), decide_eq_false (by omega), decide_eq_false (by omega), decide_eq_false (by omega), decide_eq_false (by omega)⟩)
  · exact .inr (.inr (.inl ⟨decide_eq_true (by omega), decide_eq_true (by omega), decide_eq_true (by omega), decide_eq_false (by omega), decide_eq_false (by omega), decide_eq_false (by omega)⟩))
  · exact .inr (.inr (.inr (.inl ⟨decide_eq_true (by omega), decide_eq_true (by omega), decide_eq_false (by omega), decide_eq_true (by omega), decide_eq_false (by omega), decide_eq_true (by omega)⟩)))
  · exact .inr (.inr (.inr (.inr (.inl ⟨decide_eq_false (by omega), decide_eq_true (by omega), decide_eq_true (by omega), decide_eq_true (by omega), decide_eq_false (by omega), decide_eq_true (by omega)⟩))))
  · exact .inr (.inr (.inr (.inr (.inr (.inl ⟨decide_eq_false (by omega), decide_eq_false (by omega), decide_eq_false (by omega), decide_eq_false (by omega), decide_eq_true (by omega), decide_eq_false (by omega)⟩)))))
  · exact .inr (.inr (.inr (.inr (.inr (.inr (.inl ⟨decide_eq_false (by omega), decide_eq_true (by omega), decide_eq_false (by omega), decide_eq_false (by omega), decide_eq_true (by omega), decide_eq_false (by omega)⟩))))))
  · exact .inr (.inr (.inr (.inr (.inr (.inr (.inr (⟨decide_eq_false (by omega), decide_eq_false (by omega), decide_eq_false (by omega), decide_eq_false (by omega), decide_eq_false (by omega), decide_eq_false (by omega)⟩)))))))
end Go.Proofs.YtpdbokbmchlgpaaGreat.PK
namespace Go.Proofs.YtpdbokbmchlgpaaGreat.PK
open Go.RowKit

theorem or_lo {x b : Int} (hx : 0 ≤ x ∧ x + b < 4294967296) (hm : x % 256 = 0) (hb : 0 ≤ b ∧ b < 256) : bits .or .u32 x b = x + b := by
  rw [u32_or x b hx.1 (by omega) hb.1 (by omega)]
  have h := Nat.two_pow_add_eq_or_of_lt (i := 8) (b := b.toNat) (by omega) (x.toNat / 256)
  have e : 2 ^ 8 * (x.toNat / 256) = x.toNat := by
    have : x.toNat % 256 = 0 := by omega
    omega
  rw [e] at h
  rw [← h]; omega
theorem or_hi {x y : Int} (k : Nat) (hx : 0 ≤ x ∧ x < 2 ^ k) (hy : 0 ≤ y) (hs : x + y < 4294967296) (hm : y.toNat % 2 ^ k = 0) : bits .or .u32 x y = x + y := by
  rw [u32_or x y hx.1 (by omega) hy (by omega)]
  have hxk : x.toNat < 2 ^ k := by
    have : ((x.toNat : Nat) : Int) < ((2 ^ k : Nat) : Int) := by rw [Int.toNat_of_nonneg hx.1, Int.natCast_pow]; exact hx.2
    exact Int.ofNat_lt.1 this
  have h := Nat.two_pow_add_eq_or_of_lt (i := k) (b := x.toNat) hxk (y.toNat / 2 ^ k)
  have e : 2 ^ k * (y.toNat / 2 ^ k) = y.toNat := Nat.mul_div_cancel' (Nat.dvd_of_mod_eq_zero hm)
  rw [e] at h
  rw [Nat.or_comm, ← h]; omega
/-- The first i bytes read, from the lowest one up. -/
def gtD (mem : List Int) (at0 : Nat) : Nat → Int
  | 0 => 0
  | i + 1 => bits .or .u32 (gtD mem at0 i) (mem.getD (at0 + i) 0 * 2 ^ (8 * i) % 4294967296)
theorem gtD_w (mem : List Int) (at0 : Nat) : ∀ d, isW (gtD mem at0 d)
  | 0 => zero_w
  | _ + 1 => bits_w _ _ _
theorem or_zero {b : Int} (hb : 0 ≤ b ∧ b < 256) : bits .or .u32 0 b = b := by rw [or_lo (by omega) (by decide) hb]; omega
theorem gt_one {mem : List Int} {at0 : Nat} (hB : ∀ k, isB (mem.getD k 0)) : gtD mem at0 1 = mem.getD at0 0 := by
  have h := hB at0
  obtain ⟨h1, h2⟩ := h
  show bits .or .u32 0 (mem.getD (at0 + 0) 0 * 2 ^ (8 * 0) % 4294967296) = _
  rw [Nat.add_zero, Nat.mul_zero, Int.pow_zero, Int.mul_one, Int.emod_eq_of_lt h1 (by omega), or_zero ⟨h1, h2⟩]
theorem gt_two {mem : List Int} {at0 : Nat} (hB : ∀ k, isB (mem.getD k 0)) : gtD mem at0 2 = mem.getD at0 0 + mem.getD (at0 + 1) 0 * 256 := by
  show bits .or .u32 (gtD mem at0 1) (mem.getD (at0 + 1) 0 * 2 ^ (8 * 1) % 4294967296) = _
  rw [gt_one hB]
  obtain ⟨h1, h2⟩ := hB at0
  obtain ⟨h3, h4⟩ := hB (at0 + 1)
  generalize mem.getD at0 0 = a at *
  generalize mem.getD (at0 + 1) 0 = b at *
  have e : b * 2 ^ (8 * 1) % 4294967296 = b * 256 := by show b * 256 % 4294967296 = _; omega
  rw [e]
  exact or_hi 8 (by omega) (by omega) (by omega) (by omega)
theorem gt_three {mem : List Int} {at0 : Nat} (hB : ∀ k, isB (mem.getD k 0)) : gtD mem at0 3 = mem.getD at0 0 + mem.getD (at0 + 1) 0 * 256 + mem.getD (at0 + 2) 0 * 65536 := by
  show bits .or .u32 (gtD mem at0 2) (mem.getD (at0 + 2) 0 * 2 ^ (8 * 2) % 4294967296) = _
  rw [gt_two hB]
  obtain ⟨h1, h2⟩ := hB at0
  obtain ⟨h3, h4⟩ := hB (at0 + 1)
  obtain ⟨h5, h6⟩ := hB (at0 + 2)
  generalize mem.getD at0 0 = a at *
  generalize mem.getD (at0 + 1) 0 = b at *
  generalize mem.getD (at0 + 2) 0 = c at *
  have e : c * 2 ^ (8 * 2) % 4294967296 = c * 65536 := by show c * 65536 % 4294967296 = _; omega
  rw [e]
  exact or_hi 16 (by omega) (by omega) (by omega) (by omega)
theorem gt_four {mem : List Int} {at0 : Nat} (hB : ∀ k, isB (mem.getD k 0)) : gtD mem at0 4 = mem.getD at0 0 + mem.getD (at0 + 1) 0 * 256 + mem.getD (at0 + 2) 0 * 65536 + mem.getD (at0 + 3) 0 * 16777216 := by
  show bits .or .u32 (gtD mem at0 3) (mem.getD (at0 + 3) 0 * 2 ^ (8 * 3) % 4294967296) = _
  rw [gt_three hB]
  obtain ⟨h1, h2⟩ := hB at0
  obtain ⟨h3, h4⟩ := hB (at0 + 1)
  obtain ⟨h5, h6⟩ := hB (at0 + 2)
  obtain ⟨h7, h8⟩ := hB (at0 + 3)
  generalize mem.getD at0 0 = a at *
  generalize mem.getD (at0 + 1) 0 = b at *
  generalize mem.getD (at0 + 2) 0 = c at *
  generalize mem.getD (at0 + 3) 0 = d at *
  have e : d * 2 ^ (8 * 3) % 4294967296 = d * 16777216 := by show d * 16777216 % 4294967296 = _; omega
  rw [e]
  exact or_hi 24 (by omega) (by omega) (by omega) (by omega)
theorem rd_step {mem : List Int} {at0 many d : Nat} {x b : Int} (hx : rdD mem at0 many d = x) (hb : mem.getD (at0 + (many - (d + 1))) 0 = b) (h : 0 ≤ x ∧ x < 16777216) (hB : isB b) : rdD mem at0 many (d + 1) = x * 256 + b := by
  show bits .or .u32 (rdD mem at0 many d * 256 % 4294967296) (mem.getD (at0 + (many - (d + 1))) 0) = _
  rw [hx, hb]
  obtain ⟨h1, h2⟩ := hB
  have e : x * 256 % 4294967296 = x * 256 := by omega
  rw [e]
  exact or_lo (by omega) (by omega) ⟨h1, h2⟩
/-- Both ways to read agree. -/
theorem gt_rd {mem : List Int} {at0 many : Nat} (hB : ∀ k, isB (mem.getD k 0)) (hm : many = 1 ∨ many = 2 ∨ many = 4) : gtD mem at0 many = rdF mem at0 many := by
  have b0 := hB at0; have b1 := hB (at0 + 1); have b2 := hB (at0 + 2); have b3 := hB (at0 + 3)
  unfold rdF
  rcases hm with rfl | rfl | rfl
  · rw [gt_one hB, rd_step (x := 0) (b := mem.getD at0 0) rfl rfl (by decide) b0]; omega
  · have r1 := rd_step (mem := mem) (at0 := at0) (many := 2) (d := 0) (x := 0) (b := mem.getD (at0 + 1) 0) rfl rfl (by decide) b1
    rw [gt_two hB, rd_step (b := mem.getD at0 0) r1 rfl (by have := b1.1; have := b1.2; omega) b0]; omega
  · have r1 := rd_step (mem := mem) (at0 := at0) (many := 4) (d := 0) (x := 0) (b := mem.getD (at0 + 3) 0) rfl rfl (by decide) b3
    have r2 := rd_step (b := mem.getD (at0 + 2) 0) r1 rfl (by have := b3.1; have := b3.2; omega) b2
    have r3 := rd_step (b := mem.getD (at0 + 1) 0) r2 rfl (by have := b3.1; have := b3.2; have := b2.1; have := b2.2; omega) b1
    rw [gt_four hB, rd_step (b := mem.getD at0 0) r3 rfl (by have := b3.1; have := b3.2; have := b2.1; have := b2.2; have := b1.1; have := b1.2; omega) b0]; omega
set_option maxRecDepth 100000 in
set_option maxHeartbeats 2000000 in
theorem get_any (mem : List Int) (a : Option Addr) (cap at0 many : Nat) (w : World) (hin : BIn w a mem) (hB : ∀ x ∈ mem, isB x) (hl : mem.length ≤ 1000000) (hat : at0 + many ≤ mem.length) (hm : many = 1 ∨ many = 2 ∨ many = 4) :
    Calls Tryz.prog 29 #[.slice a mem.length cap, .int .i64 at0, .int .i64 many] w fun e w' => e = .returned (.int .u32 (rdF mem at0 many)) ∧ w = w' := by
  have HI := Lib.hid hin
  have HBy := Lib.hid (fun k => getD_b hB k)
  have HW := Lib.hid (fun d => gtD_w mem at0 d)
  have HRes := Lib.hid (gt_rd (at0 := at0) (fun k => getD_b hB k) hm)
  have hm4 : many ≤ 4 := by omega
  clear hin hB hm
  go_enter Tryz.func29, Tryz.ntmps29
  go_wp2_with fail
  go_loopw [7, 10] (fun n i wr => ∃ d : Nat, d ≤ many ∧ i = .int .i64 d ∧ n = .int .u32 (gtD mem at0 d) ∧ w = wr) (fun _ i _ => many - (intOf i).toNat)
  case atStart => exact ⟨0, Nat.zero_le _, rfl, rfl, by trivial⟩
  case round =>
    obtain ⟨d, hd, rfl, rfl, rfl⟩ := hrel
    by_cases hlt : d < many
    · obtain ⟨b, off, rfl, hc⟩ := HI.out (at0 + d) (by omega)
      have hby := HBy.out (at0 + d)
      have hw := HW.out d
      have HN : Hid (gtD mem at0 (d + 1) = bits .or .u32 (gtD mem at0 d) (mem.getD (at0 + d) 0 * 2 ^ (8 * d) % 4294967296)) := Lib.hid rfl
      have hdi : (d : Int) < (many : Int) := by omega
      have hix : ((at0 : Int) + (d : Int)).toNat = at0 + d := by omega
      have hil : (at0 : Int) + (d : Int) < (mem.length : Int) := by omega
      have hin0 : (0 : Int) ≤ (at0 : Int) + (d : Int) := by omega
      have hd0 : (0 : Int) ≤ (d : Int) := by omega
      obtain ⟨hw0, hw1⟩ := hw
      obtain ⟨hb0, hb1⟩ := hby
      generalize mem.getD (at0 + d) 0 = x at *
      generalize hn : gtD mem at0 d = n at *
      clear hn
      go_wp2_with fail
      go_roundw
      case rel => exact ⟨d + 1, by omega, by go_num, by rw [HN.out], by trivial⟩
      case measure => simp [intOf]; omega
    · obtain rfl : d = many := by omega
      go_wp2_with fail
      go_ret
      exact ⟨ret_u' HRes.out, rfl⟩
end Go.Proofs.YtpdbokbmchlgpaaGreat.PK
namespace Go.Proofs.YtpdbokbmchlgpaaGreat.PK
open Go.RowKit

theorem infoByte : (Tryz.prog.info? 5).map (fun i => (i.zero, i.size, i.bytes)) = some (some (.int .u8 0), 1, 1) := by kernel_rfl
theorem bytes_made (w : World) (n : Nat) (hn : n ≤ maxLen) : (w.alloc (.cells (madeCells #[.int .u8 0] n) 5)).ownsRow w.heap.size 5 1 (.slice (some ⟨w.heap.size, 0, none⟩) n n) n (encB (List.replicate n 0)) := by
  have e : (madeCells #[.int .u8 0] n) = (encB (List.replicate n 0)).toArray := by
    rw [valArr_made]
    unfold encB valArr
    apply Array.ext
    · simp
    · intro i h1 h2; simp
  refine ⟨by rw [encB_len, List.length_replicate, Nat.mul_one], .inr ⟨w.heap.size, n, _, rfl, Nat.le_refl _, heap_alloc_new w _, Nat.le_refl _, hn, ?_, ?_⟩⟩
  · rw [e]; simp [encB]
  · rw [e, List.take_of_length_le (by simp [encB])]
theorem slotAt_any (s : Nat) (w : World) (hs : s ≤ 1000) : Calls Tryz.prog 25 #[.int .i64 s] w fun e w' => e = .returned (.int .i64 ((512 + 256 * s : Nat) : Int)) ∧ w' = w := by
  have hn : (s : Int) ≤ 1000 := by omega
  go_enter Tryz.func25, Tryz.ntmps25
  go_wp2_with fail
  go_ret
  exact ⟨by congr 2, rfl⟩
end Go.Proofs.YtpdbokbmchlgpaaGreat.PK
