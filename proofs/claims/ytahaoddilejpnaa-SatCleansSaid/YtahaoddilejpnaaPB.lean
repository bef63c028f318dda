/- Pure of the program. -/
import Derived.Test.YtahaoddilejpnaaPA
import Derived.Test.YtahaoddilejpnaaPP
import Derived.Test.YtahaoddilejpnaaSB
namespace Go.Proofs.Ytahaoddilejpnaa
open Go.RowKit Go.Shelf Go.Sort

theorem owns_grow {w : World} {B g cap q : Nat} {os : Array Obj} {cur : Array Value} {e : TypeId} {xs ts : List Int} (hB : B ≤ g) (hb : w.heap[g]? = some (.cells cur e (0, 0))) (h1 : xs.length ≤ cap) (h2 : cap ≤ maxLen) (h3 : cur.size = cap * 1) (hl : ts.length = xs.length) :
    (grow (putRow (Value.int .i64) (Sort.ahead w q) g 0 ts.toArray) os).ownsRow B e 1 (.slice (some ⟨g, 0, none⟩) xs.length cap) xs.length (encI ts) ∧ Below B w (grow (putRow (Value.int .i64) (Sort.ahead w q) g 0 ts.toArray) os) := by
  have ho := ownsRow_sortedI (n := q) (os := os) hl hB hb h1 h2 h3
  have hg := grownBy_sortedI (w := w) (g := g) (n := q) (os := os) ts.toArray
  exact ⟨ho, ⟨hg.os, hg.tape, hg.output, hg.size, fun k hk => by
    by_cases hks : k < w.heap.size
    · exact hg.block k hks (fun e => by cases e; omega)
    · have : w.heap.size ≤ g := by omega
      exact absurd (lt_of_block hb) (by omega)⟩⟩
/-- Sort of a row of the call's own. -/
theorem sort_any (B : Nat) (v : Value) (xs : List Int) (w : World) (hown : w.ownsRow B 3 1 v xs.length (encI xs)) (hl : xs.length ≤ 10000000) :
    Calls Try.prog 50 #[v] w fun e w' => e = .returned (.tuple #[]) ∧ w'.ownsRow B 3 1 v xs.length (encI (sortI xs)) ∧ Below B w w' := by
  have hb0 : w.heap.size ≤ w.heap.size := Nat.le_refl _
  rcases hown.2 with ⟨rfl, h0⟩ | ⟨g, cap, cur, rfl, hB, hg, hnc, hm, hcs, ht⟩
  · have hx : xs = [] := List.length_eq_zero_iff.1 h0
    subst hx
    exact (Try.slices_Sort_int_none none 0 w).mono fun e w' ⟨h1, h2⟩ => by
      subst h2
      exact ⟨h1, by rw [show sortI [] = [] by simp [sortI]]; exact owns_nil _ _ _ _, ⟨rfl, rfl, rfl, Nat.le_refl _, fun _ _ => rfl⟩⟩
  · have hH : Holds (Value.int .i64) w g 0 xs.toArray := holds_of_blockI hg (by rw [Nat.mul_one] at ht; exact ht)
    refine (Try.slices_Sort_int g 0 cap xs w hH (lt_of_block hg) (by omega)).mono fun e w' ⟨h1, q, os, h2⟩ => ?_
    subst h2
    have := owns_grow (q := q) (os := os) hB hg hnc hm hcs (sortI_len xs)
    exact ⟨h1, this.1, this.2⟩
/-- Compact of a row of the call's own. -/
theorem compact_any (B : Nat) (v : Value) (xs : List Int) (w : World) (hown : w.ownsRow B 3 1 v xs.length (encI xs)) (hl : xs.length ≤ 10000000) :
    Calls Try.prog 51 #[v] w fun e w' => (∃ v', e = .returned v' ∧ w'.ownsRow B 3 1 v' (Lib.compact xs).length (encI (Lib.compact xs))) ∧ Below B w w' := by
  rcases hown.2 with ⟨rfl, h0⟩ | ⟨g, cap, cur, rfl, hB, hg, hnc, hm, hcs, ht⟩
  · have hx : xs = [] := List.length_eq_zero_iff.1 h0
    subst hx
    exact (Try.slices_Compact_int_empty none 0 w).mono fun e w' ⟨h1, h2⟩ => by
      subst h2
      exact ⟨⟨_, h1, owns_nil _ _ _ _⟩, ⟨rfl, rfl, rfl, Nat.le_refl _, fun _ _ => rfl⟩⟩
  · have hH : Holds (Value.int .i64) w g 0 xs.toArray := holds_of_blockI hg (by rw [Nat.mul_one] at ht; exact ht)
    refine (Try.slices_Compact_int g 0 cap xs w hH (by omega) hnc).mono fun e w' ⟨h1, q, h2⟩ => ?_
    subst h2
    have hlen := Lib.compact_length_le xs
    have ho := owns_put (q := q) (m := (Lib.compact xs).length) (ts := Lib.compact xs ++ List.replicate (xs.length - (Lib.compact xs).length) 0) hB hg hnc hm hcs (by rw [List.length_append, List.length_replicate]; omega) hlen
    rw [List.take_left] at ho
    exact ⟨⟨_, h1, ho.1⟩, ho.2⟩
theorem found_any (xs : List Int) (x : Int) (a : Option Addr) (cap : Nat) (w : World) (hin : IntsIn w a xs) (hl : xs.length ≤ 10000000) (hs : xs.Pairwise (· ≤ ·)) :
    Calls Try.prog 52 #[.slice a xs.length cap, .int .i64 x] w fun e w' => (∃ p : Int, e = .returned (.tuple #[.int .i64 p, .bool (hasB xs x)])) ∧ Below w.heap.size w w' := by
  by_cases hx : xs = []
  · subst hx
    exact (Try.slices_BinarySearch_int_empty a cap x w).mono fun e w' ⟨h1, h2⟩ => by subst h2; exact ⟨⟨0, h1⟩, Below.refl _ _⟩
  · obtain ⟨b, off, rfl, _⟩ := hin 0 (List.length_pos_iff.2 hx)
    refine (Try.slices_BinarySearch_int b off xs.length cap xs x w (Nat.le_refl _) (by omega) (fun j hj => ?_) (by rw [List.take_length]; exact hs)).mono fun e w' ⟨h1, q, h2⟩ => ?_
    · obtain ⟨b', off', e, hc⟩ := hin j hj
      cases e
      exact hc
    · subst h2
      rw [List.take_length] at h1
      have e : xs.contains x = hasB xs x := by rw [Bool.eq_iff_iff, hasB_mem]; simp
      rw [e] at h1
      exact ⟨⟨_, h1⟩, below_drewN (Below.refl _ _) _⟩
theorem compact_both (F : List Int) : (Lib.compact (sortI F)).Pairwise (· ≤ ·) ∧ ∀ x, x ∈ Lib.compact (sortI F) ↔ x ∈ F := by
  obtain ⟨h1, h2⟩ := compact_facts _ (sortI_sorted F)
  exact ⟨h1.imp fun h => Int.le_of_lt h, fun x => (h2 x).trans (sortI_mem _ x)⟩
def pureR (n : Int) (g : List (List Int)) : List Int := if validE n g = 0 then pureL n.toNat g else []
set_option maxRecDepth 100000 in
set_option maxHeartbeats 4000000 in
theorem sPure_any (n : Int) (g : List (List Int)) (a : Option Addr) (cap : Nat) (w : World) (hin : RowsIn w a g) (hs : Short g) :
    Calls Try.prog 25 #[.int .i64 n, .slice a g.length cap] w fun e w' => (∃ z, e = .returned (.tuple #[z, .int .i64 (validE n g)]) ∧ w'.ownsRow w.heap.size 3 1 z (pureR n g).length (encI (pureR n g))) ∧ Below w.heap.size w w' := by
  have HV := Lib.hid (sValidate_any n g a cap w hin hs)
  have hE2 : pureR n g = if validE n g = 0 then pureL n.toNat g else [] := rfl
  rw [hE2]
  by_cases he : validE n g = 0
  rotate_left
  · have he' : (validE n g != 0) = true := by simpa using he
    rw [if_neg he]
    clear hin hE2 hs
    generalize validE n g = e at *
    generalize g.length = p at *
    go_enter Try.func25, Try.ntmps25
    go_wp2_with fail
    refine HV.out.mono ?_; rintro e w2 ⟨rfl, hb2⟩
    go_wp2_with fail
    go_ret2
    exact ⟨⟨_, rfl, owns_nil _ _ _ _⟩, hb2⟩
  have hok := validE_ok he
  rw [if_pos he]
  rw [he] at HV ⊢
  have hfl := flat_le g hs g.length (Nat.le_refl _)
  rw [List.take_length] at hfl
  have hgl := hs.len
  have hfl2 : g.flatten.length ≤ 1000000 := by omega
  have HC : Hid (∀ W, Below w.heap.size w W → Calls Try.prog 49 #[.slice a g.length cap] W fun e w' => (∃ v, e = .returned v ∧ w'.ownsRow W.heap.size 3 1 v g.flatten.length (encI g.flatten)) ∧ Below W.heap.size W w') := Lib.hid fun W hb => concat_any g a cap W (hin.below hb) hs
  have HSm : Hid (((Lib.compact (sortI g.flatten)).filter fun l => !hasB (Lib.compact (sortI g.flatten)) (-l)) = pureL n.toNat g) := Lib.hid (pure_same (by
    have := allLits_of hok.2.2
    have en : ((n.toNat : Nat) : Int) = n := by omega
    rw [en]; exact this))
  obtain ⟨hc1, hc2⟩ := compact_both g.flatten
  have hcl : (Lib.compact (sortI g.flatten)).length ≤ 1000000 := Nat.le_trans (Lib.compact_length_le _) (by rw [sortI_len]; exact hfl2)
  have HB : Hid (∀ k, k < (Lib.compact (sortI g.flatten)).length → -4000 ≤ (Lib.compact (sortI g.flatten)).getD k 0 ∧ (Lib.compact (sortI g.flatten)).getD k 0 ≤ 4000) := Lib.hid fun k hk => by
    have hm := (hc2 _).1 (getD_mem _ 0 k hk)
    obtain ⟨kk, hkk, hx⟩ := List.mem_flatten.1 hm
    have := lit_bds (allLits_of hok.2.2 kk hkk _ hx)
    omega
  have HSo := Lib.hid hc1
  have HFl := Lib.hid hfl2
  clear hin hE2 hs he hfl hgl hfl2 hc1 hc2 hok
  generalize pureL n.toNat g = R at *
  generalize hZ : Lib.compact (sortI g.flatten) = Z at *
  have HZ := Lib.hid hZ; clear hZ
  generalize g.flatten = F at *
  generalize g.length = p at *
  obtain ⟨i0, hi, ip0, ip1, ip2⟩ := info_parts Try.infoInt
  go_enter Try.func25, Try.ntmps25
  go_wp2_with fail
  refine HV.out.mono ?_; rintro e w2 ⟨rfl, hb2⟩
  have HB2 := Lib.hid hb2; clear hb2
  go_wp2_with fail
  refine (HC.out _ HB2.out).mono ?_; rintro e w3 ⟨⟨v3, rfl, hown3⟩, hb3⟩
  have HB3 := Lib.hid (HB2.out.trans (hb3.mono HB2.out.size))
  have HS3 := Lib.hid (sort_any w.heap.size v3 F w3 (owns_base hown3 HB2.out.size) (by have := HFl.out; omega))
  clear hown3 hb3
  go_wp2_with fail
  refine HS3.out.mono ?_; rintro e w4 ⟨rfl, hown4, hb4⟩
  have HB4 := Lib.hid (HB3.out.trans hb4)
  have HC4 := Lib.hid (compact_any w.heap.size v3 (sortI F) w4 (by rw [sortI_len]; exact hown4) (by rw [sortI_len]; have := HFl.out; omega))
  rw [HZ.out] at HC4
  clear hown4 hb4
  go_wp2_with fail
  refine HC4.out.mono ?_; rintro e w5 ⟨⟨v5, rfl, hown5⟩, hb5⟩
  have HB5 := Lib.hid (HB4.out.trans hb5)
  obtain ⟨za, zc, rfl, _, hiz⟩ := ints_of_owns hown5
  have HIz := Lib.hid hiz
  have HSz : Hid (w.heap.size ≤ w5.heap.size) := Lib.hid HB5.out.size
  clear hown5 hb5 hiz
  go_wp2_with fail
  go_loopw [8, 27] (fun z i wr => ∃ k : Nat, k ≤ Z.length ∧ i = .int .i64 k ∧ wr.ownsRow w5.heap.size 3 1 z ((Z.take k).filter fun l => !hasB Z (-l)).length (encI ((Z.take k).filter fun l => !hasB Z (-l))) ∧ Below w5.heap.size w5 wr) (fun _ i _ => Z.length - (intOf i).toNat)
  case atStart => exact ⟨0, Nat.zero_le _, rfl, owns_nil _ _ _ _, Below.refl _ _⟩
  case round =>
    obtain ⟨k, hk, rfl, hown, hb⟩ := hrel
    obtain ⟨va, vc, rfl⟩ := owns_shape hown
    have HO := Lib.hid hown; have HBr := Lib.hid hb
    by_cases hlt : k < Z.length
    · have HFs := Lib.hid (filter_take_succ Z (fun l => !hasB Z (-l)) k hlt)
      have hfl := filter_len (Z.take k) (fun l => !hasB Z (-l))
      rw [List.length_take] at hfl
      have hzb := HB.out k hlt
      obtain ⟨b2, off2, rfl, hcz⟩ := HIz.out.below hb k hlt
      have HFd := Lib.hid (found_any Z (-Z.getD k 0) (some ⟨b2, off2, none⟩) zc wr (HIz.out.below hb) (by omega) HSo.out)
      clear hown hb
      generalize hf1 : (Z.take (k + 1)).filter (fun l => !hasB Z (-l)) = f1 at *
      have HF1 := Lib.hid hf1; clear hf1
      generalize (Z.take k).filter (fun l => !hasB Z (-l)) = f0 at *
      generalize Z.getD k 0 = y at *
      obtain ⟨hy1, hy2⟩ := hzb
      generalize hasB Z (-y) = hby at *
      have hfl2 : f0.length ≤ 1000000 := by omega
      clear hfl
      cases hby
      · have HF2 : Hid (f1 = f0 ++ [y]) := HFs
        go_wp2_with fail
        refine HFd.out.mono ?_; rintro e w6 ⟨⟨p6, rfl⟩, hb6⟩
        have HB6 := Lib.hid (HBr.out.trans (hb6.mono HBr.out.size)); have HO6 := Lib.hid (owns_below HO.out hb6)
        clear hb6 hcz
        have HN7 := Lib.hid (cell_one_at w6 (.int .i64 y) 3)
        have HO7 := Lib.hid (HO6.out.alloc (.cells #[.int .i64 y] 3))
        have HB7 := Lib.hid (HB6.out.alloc HB6.out.size (.cells #[.int .i64 y] 3))
        have HS63 : Hid (f0.length + 1 ≤ maxLen) := Lib.hid (by unfold maxLen; omega)
        have HSb : Hid ((f0.length + 1) * 8 ≤ 140737488355328) := Lib.hid (by omega)
        have HZ6 : Hid (w5.heap.size ≤ (w6.alloc (.cells #[.int .i64 y] 3)).heap.size) := Lib.hid HB7.out.size
        go_wp2_with (first | (at_builtin; refine wpList_append_own_at _ rfl _ _ 40 rfl w5.heap.size 3 i0 (.int .i64 0) 1 8 Try.underlying40 hi ip0 ip1 ip2 rfl (by decide) _ _ _ rfl HO7.out ⟨w6.heap.size, 0, none⟩ 1 1 [.int .i64 y] rfl rfl HN7.out (one_int _) HS63.out HSb.out HZ6.out ?_; intro v9 w9 hown9 hgrow9 _ _; obtain ⟨v9a, v9c, rfl⟩ := owns_shape hown9; have HO9 := Lib.hid hown9; have HB9 := Lib.hid (HB7.out.grown hgrow9 HZ6.out (fun g hg => (owns_lt HO.out hg).1)); clear hown9 hgrow9))
        go_roundw
        case rel => exact ⟨k + 1, by omega, by go_num, by rw [HF1.out, HF2.out, List.length_append, encI_snoc]; exact HO9.out, HB9.out⟩
        case measure => simp [intOf]; omega
      · have HF2 : Hid (f1 = f0) := HFs
        go_wp2_with fail
        refine HFd.out.mono ?_; rintro e w6 ⟨⟨p6, rfl⟩, hb6⟩
        have HB6 := Lib.hid (HBr.out.trans (hb6.mono HBr.out.size)); have HO6 := Lib.hid (owns_below HO.out hb6)
        clear hb6 hcz
        go_wp2_with fail
        go_roundw
        case rel => exact ⟨k + 1, by omega, by go_num, by rw [HF1.out, HF2.out]; exact HO6.out, HB6.out⟩
        case measure => simp [intOf]; omega
    · have hkz : k = Z.length := by omega
      have HR : Hid ((Z.take k).filter (fun l => !hasB Z (-l)) = R) := Lib.hid (by rw [hkz, List.take_length]; exact HSm.out)
      rw [HR.out] at HO
      clear hown hb
      generalize (Z.take k).filter (fun l => !hasB Z (-l)) = f0 at *
      obtain rfl := HR.out
      go_wp2_with fail
      go_ret2
      exact ⟨⟨_, rfl, owns_base HO.out HSz.out⟩, HB5.out.trans (HBr.out.mono HSz.out)⟩
end Go.Proofs.Ytahaoddilejpnaa
