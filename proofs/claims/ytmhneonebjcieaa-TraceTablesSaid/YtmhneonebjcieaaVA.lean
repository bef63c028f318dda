/- The walks of Variables of program and document. -/
import Derived.Test.YtmhneonebjcieaaFG
namespace Go.Proofs.Ytmhneonebjcieaa
open Go.RowKit

/-- The variables below k of which a place covers an address. -/
def varsK (l : List Pl) (ad : Int) (k : Nat) : List Nat := (List.range k).filter fun v => isFound l (v : Int) ad
theorem varsK_len (l : List Pl) (ad : Int) (k : Nat) : (varsK l ad k).length ≤ k := by
  unfold varsK
  exact Nat.le_trans (List.length_filter_le _ _) (by simp)
theorem varsK_succ (l : List Pl) (ad : Int) (k : Nat) : varsK l ad (k + 1) = if isFound l (k : Int) ad then varsK l ad k ++ [k] else varsK l ad k := by
  unfold varsK
  rw [List.range_succ, List.filter_append]
  cases h : isFound l (k : Int) ad <;> simp [h]
/-- What Variables tells. -/
def VarPost (l : List Pl) (ad : Int) (B : Nat) (v : Value) (w' : World) : Prop :=
  if askedE l 0 [ad] = 0 then w'.ownsRow B 3 1 v (varsK l ad 64).length (encI (varsK l ad 64)) else v = .slice none 0 0
set_option maxRecDepth 100000 in
set_option maxHeartbeats 2000000 in
theorem Variables_any (l : List Pl) (a : Option Addr) (cap : Nat) (ad : Int) (w : World) (hin : PlsIn w a l) (hlc : l.length ≤ cap) (hl : l.length ≤ 1000) :
    Calls Try.prog 26 #[.slice a l.length cap, .int .i64 ad] w fun e w' => (∃ v, e = .returned (.tuple #[v, .int .i64 (askedE l 0 [ad])]) ∧ VarPost l ad w.heap.size v w') ∧ Below w.heap.size w w' := by
  have HI := Lib.hid hin
  have hb1 : Below w.heap.size w (w.alloc (.cells #[.int .i64 ad] 3)) := (Below.refl _ _).alloc (Nat.le_refl _) _
  have HA := Lib.hid (asked_any l a cap 0 [ad] (some ⟨w.heap.size, 0, none⟩) 1 _ (hin.below hb1) hlc hl (ints_one_new w ad) (by simp))
  have HBa := Lib.hid hb1
  have HNil : Hid (askedE l 0 [ad] ≠ 0 → ∀ w', VarPost l ad w.heap.size (.slice none 0 0) w') := Lib.hid fun h w' => by unfold VarPost; rw [if_neg h]
  have HTab := Lib.hid (fun h => @asked_good l 0 [ad] h)
  have HPost : Hid (askedE l 0 [ad] = 0 → ∀ v w', w'.ownsRow w.heap.size 3 1 v (varsK l ad 64).length (encI (varsK l ad 64)) → VarPost l ad w.heap.size v w') := Lib.hid fun h v w' ho => by unfold VarPost; rw [if_pos h]; exact ho
  clear hin hb1
  generalize askedE l 0 [ad] = E at *
  by_cases hE : E = 0
  rotate_left
  · have HD := Lib.hid (HNil.out hE)
    have hne : (E != 0) = true := bne_iff_ne.2 hE
    clear hE
    go_enter Try.func26, Try.ntmps26
    go_wp2_with fail
    refine HA.out.mono ?_; rintro e w1 ⟨rfl, hb1⟩
    have HB1 := Lib.hid (HBa.out.trans (hb1.mono HBa.out.size))
    clear hb1
    go_wp2_with fail
    go_ret2
    exact ⟨⟨_, rfl, HD.out _⟩, HB1.out⟩
  have HT := Lib.hid (HTab.out hE)
  have HPost := Lib.hid (fun (_ : True) => HPost.out hE)
  have HF := Lib.hid (fun (k : Nat) (w' : World) (hb : Below w.heap.size w w') => find_any l a cap (k : Int) ad w' (HI.out.below hb) hl (fun k hk => HT.out.good k hk))
  subst hE
  obtain ⟨i0, hi, ip0, ip1, ip2⟩ := info_parts Try.infoInt
  go_enter Try.func26, Try.ntmps26
  go_wp2_with fail
  refine HA.out.mono ?_; rintro e w1 ⟨rfl, hb1⟩
  have HB1 := Lib.hid (HBa.out.trans (hb1.mono HBa.out.size))
  clear hb1
  go_wp2_with fail
  go_loopw [7, 18] (fun u i wr => ∃ k : Nat, k ≤ 64 ∧ i = .int .i64 k ∧ wr.ownsRow w.heap.size 3 1 u (varsK l ad k).length (encI (varsK l ad k)) ∧ Below w.heap.size w wr) (fun _ i _ => 64 - (intOf i).toNat)
  case atStart => exact ⟨0, Nat.zero_le _, rfl, ⟨rfl, .inl ⟨rfl, rfl⟩⟩, HB1.out⟩
  case round =>
    obtain ⟨k, hk, rfl, ho, hb⟩ := hrel
    have HO := Lib.hid ho; have HB := Lib.hid hb
    obtain ⟨ua, uc, rfl⟩ := owns_shape ho
    have hvl := varsK_len l ad k
    by_cases hlt : k < 64
    · have hki : (k : Int) < 64 := by omega
      have HC := Lib.hid (HF.out k wr hb)
      have hsc := varsK_succ l ad k
      generalize varsK l ad k = xs at *
      generalize foundP l (k : Int) ad = p at *
      cases hf : isFound l (k : Int) ad
      · rw [hf, if_neg (by decide)] at hsc
        rw [hf] at HC
        have HSc := Lib.hid hsc
        clear hsc hf ho hb
        go_wp2_with fail
        refine HC.out.mono ?_; rintro e w2 ⟨rfl, hb2⟩
        have HB2 := Lib.hid ((HB.out.trans (hb2.mono HB.out.size)).alloc (Nat.le_trans HB.out.size hb2.size) (.cells #[.int .i64 p.fr, .int .i64 p.to, .int .i64 p.va, .int .i64 p.ki, .int .i64 p.nn] 38))
        have HO2 := Lib.hid ((owns_below HO.out hb2).alloc (.cells #[.int .i64 p.fr, .int .i64 p.to, .int .i64 p.va, .int .i64 p.ki, .int .i64 p.nn] 38))
        clear hb2
        go_wp2_with fail
        go_roundw
        case rel => exact ⟨k + 1, by omega, by go_num, by rw [HSc.out]; exact HO2.out, HB2.out⟩
        case measure => simp [intOf]; omega
      · rw [hf, if_pos rfl] at hsc
        rw [hf] at HC
        have HSc := Lib.hid hsc
        have HS63 : Hid (xs.length + 1 ≤ maxLen) := Lib.hid (by unfold maxLen; omega)
        have HSb : Hid ((xs.length + 1) * 8 ≤ 140737488355328) := Lib.hid (by omega)
        clear hsc hf ho hb
        go_wp2_with fail
        refine HC.out.mono ?_; rintro e w2 ⟨rfl, hb2⟩
        have hz2 : w.heap.size ≤ w2.heap.size := Nat.le_trans HB.out.size hb2.size
        have HB2 := Lib.hid (((HB.out.trans (hb2.mono HB.out.size)).alloc hz2 (.cells #[.int .i64 p.fr, .int .i64 p.to, .int .i64 p.va, .int .i64 p.ki, .int .i64 p.nn] 38)).alloc (by simp; omega) (.cells #[.int .i64 (k : Int)] 3))
        have HO2 := Lib.hid (((owns_below HO.out hb2).alloc (.cells #[.int .i64 p.fr, .int .i64 p.to, .int .i64 p.va, .int .i64 p.ki, .int .i64 p.nn] 38)).alloc (.cells #[.int .i64 (k : Int)] 3))
        have HZ2 : Hid (w.heap.size ≤ ((w2.alloc (.cells #[.int .i64 p.fr, .int .i64 p.to, .int .i64 p.va, .int .i64 p.ki, .int .i64 p.nn] 38)).alloc (.cells #[.int .i64 (k : Int)] 3)).heap.size) := Lib.hid (by simp; omega)
        have HNew : Hid (∀ j u, ([.int .i64 (k : Int)] : List Value)[j]? = some u → ((w2.alloc (.cells #[.int .i64 p.fr, .int .i64 p.to, .int .i64 p.va, .int .i64 p.ki, .int .i64 p.nn] 38)).alloc (.cells #[.int .i64 (k : Int)] 3)).cell? ((⟨w2.heap.size + 1, 0, none⟩ : Addr).add j) = some u) := Lib.hid (by have := cell_one_new (w2.alloc (.cells #[.int .i64 p.fr, .int .i64 p.to, .int .i64 p.va, .int .i64 p.ki, .int .i64 p.nn] 38)) (.int .i64 (k : Int)) 3; simpa using this)
        clear hb2
        go_wp2_with (at_builtin; refine wpList_append_own_at _ rfl _ _ 43 rfl w.heap.size 3 i0 (.int .i64 0) 1 8 Try.underlying43 hi ip0 ip1 ip2 rfl (by decide) _ _ _ rfl HO2.out ⟨w2.heap.size + 1, 0, none⟩ 1 1 [.int .i64 (k : Int)] rfl rfl HNew.out one_int HS63.out HSb.out HZ2.out ?_; intro v' w4 hown4 hgrow4 _ _; have HB4 := Lib.hid (HB2.out.grown hgrow4 HZ2.out (fun g hg => (owns_block HO2.out hg).1)); have HO4 := Lib.hid hown4; clear hown4 hgrow4)
        go_roundw
        case rel => exact ⟨k + 1, by omega, by go_num, by rw [HSc.out, List.length_append, encI_snoc]; exact HO4.out, HB4.out⟩
        case measure => simp [intOf]; omega
    · obtain rfl : k = 64 := by omega
      have HP := Lib.hid (HPost.out trivial _ _ ho)
      clear ho hb
      go_wp2_with fail
      go_ret2
      exact ⟨⟨_, rfl, HP.out⟩, HB.out⟩
end Go.Proofs.Ytmhneonebjcieaa
