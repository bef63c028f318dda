/- Flip of both sides. -/
import Derived.Test.YtahaoddilejpnaaHF
namespace Go.Proofs.Ytahaoddilejpnaa
open Go.RowKit

def flipI (v l : Int) : Int := if l = v ∨ l = -v then -l else l
def flipL (v : Int) (g : List (List Int)) : List (List Int) := g.map fun k => k.map (flipI v)
theorem map_take_succ (k : List Int) (f : Int → Int) (j : Nat) (hj : j < k.length) : (k.take (j + 1)).map f = (k.take j).map f ++ [f (k.getD j 0)] := by
  rw [List.take_add_one, List.map_append, List.getElem?_eq_getElem hj, List.getD_eq_getElem?_getD, List.getElem?_eq_getElem hj]
  rfl
theorem flip_succ (v : Int) (g : List (List Int)) (k : Nat) (hk : k < g.length) : flipL v (g.take (k + 1)) = flipL v (g.take k) ++ [(g.getD k []).map (flipI v)] := by
  unfold flipL
  rw [List.take_add_one, List.map_append, List.getElem?_eq_getElem hk, List.getD_eq_getElem?_getD, List.getElem?_eq_getElem hk]
  rfl
theorem flip_len (v : Int) (g : List (List Int)) : (flipL v g).length = g.length := by unfold flipL; rw [List.length_map]
def flipE (n : Int) (g : List (List Int)) (v : Int) : Int := if validE n g = 0 then (if v < 1 ∨ n < v then 1 else 0) else validE n g
def flipR (n : Int) (g : List (List Int)) (v : Int) : List (List Int) := if validE n g = 0 then (if v < 1 ∨ n < v then [] else flipL v g) else []
/-- A list whose first j elements are turned. -/
def mixL (f : Int → Int) (x : List Int) (j : Nat) : List Int := (List.range x.length).map fun i => if i < j then f (x.getD i 0) else x.getD i 0
theorem mix_len (f : Int → Int) (x : List Int) (j : Nat) : (mixL f x j).length = x.length := by simp [mixL]
theorem mix_get (f : Int → Int) (x : List Int) (j : Nat) {i : Nat} (hi : i < x.length) : (mixL f x j)[i]? = some (if i < j then f (x.getD i 0) else x.getD i 0) := by simp [mixL, hi]
theorem mix_zero (f : Int → Int) (x : List Int) : mixL f x 0 = x := by
  apply List.ext_getElem?
  intro i
  by_cases hi : i < x.length
  · rw [mix_get f x 0 hi, if_neg (Nat.not_lt_zero _), List.getElem?_eq_getElem hi, List.getD_eq_getElem?_getD, List.getElem?_eq_getElem hi]; rfl
  · rw [List.getElem?_eq_none (by rw [mix_len]; omega), List.getElem?_eq_none (by omega)]
theorem mix_end (f : Int → Int) (x : List Int) : mixL f x x.length = x.map f := by
  apply List.ext_getElem?
  intro i
  by_cases hi : i < x.length
  · rw [mix_get f x _ hi, if_pos hi, List.getElem?_map, List.getElem?_eq_getElem hi, List.getD_eq_getElem?_getD, List.getElem?_eq_getElem hi]; rfl
  · rw [List.getElem?_eq_none (by rw [mix_len]; omega), List.getElem?_eq_none (by rw [List.length_map]; omega)]
theorem mix_succ (f : Int → Int) (x : List Int) (j : Nat) (hj : j < x.length) : mixL f x (j + 1) = (mixL f x j).set j (f (x.getD j 0)) := by
  apply List.ext_getElem?
  intro i
  by_cases hi : i < x.length
  · rw [mix_get f x _ hi, List.getElem?_set]
    by_cases e : j = i
    · subst e
      simp [mix_len, hj]
    · rw [if_neg e, mix_get f x _ hi]
      by_cases h : i < j
      · rw [if_pos h, if_pos (by omega)]
      · rw [if_neg h, if_neg (by omega)]
  · rw [List.getElem?_eq_none (by rw [mix_len]; omega), List.getElem?_eq_none (by rw [List.length_set, mix_len]; omega)]
theorem mix_same (f : Int → Int) (x : List Int) (j : Nat) (hj : j < x.length) (h : f (x.getD j 0) = x.getD j 0) : mixL f x (j + 1) = mixL f x j := by
  apply List.ext_getElem?
  intro i
  by_cases hi : i < x.length
  · rw [mix_get f x _ hi, mix_get f x _ hi]
    by_cases e : i = j
    · subst e
      rw [if_pos (by omega), if_neg (by omega), h]
    · by_cases h : i < j
      · rw [if_pos h, if_pos (by omega)]
      · rw [if_neg h, if_neg (by omega)]
  · rw [List.getElem?_eq_none (by rw [mix_len]; omega), List.getElem?_eq_none (by rw [mix_len]; omega)]
theorem mix_at (f : Int → Int) (x : List Int) (j : Nat) (hj : j < x.length) : (mixL f x j).getD j 0 = x.getD j 0 := by
  rw [List.getD_eq_getElem?_getD, mix_get f x j hj, if_neg (Nat.lt_irrefl _)]; rfl
set_option maxRecDepth 100000 in
set_option maxHeartbeats 4000000 in
theorem rFlip_any (n v : Int) (g : List (List Int)) (a : Option Addr) (cap : Nat) (w : World) (hin : RowsIn w a g) (hs : Short g) :
    Calls Try.prog 20 #[.int .i64 n, .slice a g.length cap, .int .i64 v] w fun e w' => (∃ z, e = .returned (.tuple #[z, .int .i64 (flipE n g v)]) ∧ RowsOwn w' w.heap.size z (flipR n g v)) ∧ Below w.heap.size w w' := by
  have HV := Lib.hid (rValidate_any n g a cap w hin hs)
  have HI := Lib.hid hin; have HR := Lib.hid hs.row; have hl := hs.len
  have hE1 : flipE n g v = if validE n g = 0 then (if v < 1 ∨ n < v then 1 else 0) else validE n g := rfl
  have hE2 : flipR n g v = if validE n g = 0 then (if v < 1 ∨ n < v then [] else flipL v g) else [] := rfl
  have HL : Hid (validE n g = 0 → 0 ≤ n ∧ n ≤ 4000) := Lib.hid fun h => ⟨(validE_ok h).1, (validE_ok h).2.1⟩
  have HLt : Hid (validE n g = 0 → Lits n g) := Lib.hid fun h => (validE_ok h).2.2
  rw [hE1, hE2]
  clear hin hE1 hE2 hs
  generalize validE n g = e at *
  by_cases he : e = 0
  rotate_left
  · have he' : (e != 0) = true := by simpa using he
    rw [if_neg he, if_neg he]
    clear HI HR
    generalize g.length = p at *
    go_enter Try.func20, Try.ntmps20
    go_wp2_with fail
    refine HV.out.mono ?_; rintro e w2 ⟨rfl, rfl⟩
    go_wp2_with fail
    go_ret2
    exact ⟨⟨_, rfl, RowsOwn.nil _ _⟩, Below.refl _ _⟩
  subst he
  have hn := HL.out rfl
  have HT := Lib.hid (HLt.out rfl)
  obtain ⟨hn0, hn4⟩ := hn
  rw [if_pos rfl, if_pos rfl]
  clear HL HLt
  by_cases hv1 : v < 1
  · rw [if_pos (.inl hv1), if_pos (.inl hv1)]
    clear HI HR HT
    generalize g.length = p at *
    go_enter Try.func20, Try.ntmps20
    go_wp2_with fail
    refine HV.out.mono ?_; rintro e w2 ⟨rfl, rfl⟩
    go_wp2_with fail
    go_ret2
    exact ⟨⟨_, rfl, RowsOwn.nil _ _⟩, Below.refl _ _⟩
  by_cases hv2 : n < v
  · rw [if_pos (.inr hv2), if_pos (.inr hv2)]
    clear HI HR HT
    generalize g.length = p at *
    go_enter Try.func20, Try.ntmps20
    go_wp2_with fail
    refine HV.out.mono ?_; rintro e w2 ⟨rfl, rfl⟩
    go_wp2_with fail
    go_ret2
    exact ⟨⟨_, rfl, RowsOwn.nil _ _⟩, Below.refl _ _⟩
  have hnv : ¬ (v < 1 ∨ n < v) := by omega
  rw [if_neg hnv, if_neg hnv]
  clear hnv
  obtain ⟨i0, hi, ip0, ip1, ip2⟩ := info_parts Try.infoInt
  obtain ⟨j0, hj, jp0, jp1, jp2⟩ := info_parts Try.infoRow
  have HRes : Hid (flipL v (g.take g.length) = flipL v g) := Lib.hid (by rw [List.take_length])
  go_enter Try.func20, Try.ntmps20
  go_wp2_with fail
  refine HV.out.mono ?_; rintro e w2 ⟨rfl, rfl⟩
  go_wp2_with fail
  go_loopw [9, 10] (fun z i wr => ∃ k : Nat, k ≤ g.length ∧ i = .int .i64 k ∧ RowsOwn wr w.heap.size z (flipL v (g.take k)) ∧ Below w.heap.size w wr) (fun _ i _ => g.length - (intOf i).toNat)
  case atStart => exact ⟨0, Nat.zero_le _, rfl, RowsOwn.nil _ _, Below.refl _ _⟩
  case round =>
    obtain ⟨k, hk, rfl, hro, hb⟩ := hrel
    obtain ⟨oa, oc, rfl⟩ := hro.shape
    have HRo := Lib.hid hro; have HB := Lib.hid hb
    clear hro
    by_cases hlt : k < g.length
    · obtain ⟨b, off, a', cap', rfl, hc, _, _, hix⟩ := HI.out.below hb k hlt
      have hr := HR.out k hlt
      have HIx := Lib.hid hix
      have HTk := Lib.hid (HT.out k hlt)
      have HS := Lib.hid (flip_succ v g k hlt)
      have hLn := Nat.le_of_eq (flip_len v (g.take k))
      rw [List.length_take] at hLn
      clear hix hb
      generalize hL1 : flipL v (g.take (k + 1)) = L1 at *
      have HL1 := Lib.hid hL1; clear hL1
      generalize flipL v (g.take k) = L at *
      generalize g.getD k [] = x at *
      · go_wp2_with fail
        generalize wr = w1 at *
        go_loopw [11, 12] (fun z i ws => ∃ j : Nat, j ≤ x.length ∧ i = .int .i64 j ∧ ws.ownsRow w1.heap.size 3 1 z ((x.take j).map (flipI v)).length (encI ((x.take j).map (flipI v))) ∧ Below w1.heap.size w1 ws) (fun _ i _ => x.length - (intOf i).toNat)
        case atStart => exact ⟨0, Nat.zero_le _, rfl, owns_nil _ _ _ _, Below.refl _ _⟩
        case round =>
          obtain ⟨j, hj', rfl, hown, hbs⟩ := hrel
          obtain ⟨va, vc, rfl⟩ := owns_shape hown
          by_cases hjx : j < x.length
          · obtain ⟨bx, ox, rfl, hcx⟩ := HIx.out.below hbs j hjx
            have hc2 := keep hc hbs
            have HFs := Lib.hid (map_take_succ x (flipI v) j hjx)
            have hfl : ((x.take j).map (flipI v)).length ≤ x.length := by rw [List.length_map, List.length_take]; omega
            have hyb := lit_bds (HTk.out j hjx)
            generalize hf1 : (x.take (j + 1)).map (flipI v) = f1 at *
            have HF1 := Lib.hid hf1; clear hf1
            generalize (x.take j).map (flipI v) = f0 at *
            generalize x.getD j 0 = y at *
            have hy1 : -4000 ≤ y := by omega
            have hy2 : y ≤ 4000 := by omega
            have HO := Lib.hid hown; have HBs := Lib.hid hbs
            clear hown hbs hyb
            have HS63 : Hid (f0.length + 1 ≤ maxLen) := Lib.hid (by unfold maxLen; omega)
            have HSb : Hid ((f0.length + 1) * 8 ≤ 140737488355328) := Lib.hid (by omega)
            have HG5 : Hid (∀ g, (Value.slice va f0.length vc).ownBlock = some g → w1.heap.size ≤ g) := Lib.hid (fun g hg => (owns_lt HO.out hg).1)
            have hfl2 : f0.length ≤ 1000 := by omega
            clear hfl
            by_cases hyv : y = v
            · have hyv' : (y == v) = true := by simpa using hyv
              have hfi : flipI v y = -y := if_pos (.inl hyv)
              clear hyv
              rw [hfi] at HFs
              have HN6 := Lib.hid (cell_one_at wr (.int .i64 (-y)) 3)
              have HO6 := Lib.hid (HO.out.alloc (.cells #[.int .i64 (-y)] 3))
              have HB6 := Lib.hid (HBs.out.alloc HBs.out.size (.cells #[.int .i64 (-y)] 3))
              have HZ6 : Hid (w1.heap.size ≤ (wr.alloc (.cells #[.int .i64 (-y)] 3)).heap.size) := Lib.hid HB6.out.size
              clear hfi
              go_wp2_with (first | (at_builtin; refine wpList_append_own_at _ rfl _ _ 40 rfl w1.heap.size 3 i0 (.int .i64 0) 1 8 Try.underlying40 hi ip0 ip1 ip2 rfl (by decide) _ _ _ rfl HO6.out ⟨wr.heap.size, 0, none⟩ 1 1 [.int .i64 (-y)] rfl rfl HN6.out (one_int _) HS63.out HSb.out HZ6.out ?_; intro v9 w9 hown9 hgrow9 _ _; obtain ⟨v9a, v9c, rfl⟩ := owns_shape hown9; have HO9 := Lib.hid hown9; have HB9 := Lib.hid (HB6.out.grown hgrow9 HZ6.out (fun g hg => HG5.out g hg)); clear hown9 hgrow9))
              go_roundw
              case rel => exact ⟨j + 1, by omega, by go_num, by rw [HF1.out, HFs.out, List.length_append, encI_snoc]; exact HO9.out, HB9.out⟩
              case measure => simp [intOf]; omega
            · have hyv' : (y == v) = false := by simpa using hyv
              by_cases hyn : y = -v
              · have hyn' : (y == -v) = true := by simpa using hyn
                have hfi : flipI v y = -y := if_pos (.inr hyn)
                clear hyn hyv
                rw [hfi] at HFs
                have HN6 := Lib.hid (cell_one_at wr (.int .i64 (-y)) 3)
                have HO6 := Lib.hid (HO.out.alloc (.cells #[.int .i64 (-y)] 3))
                have HB6 := Lib.hid (HBs.out.alloc HBs.out.size (.cells #[.int .i64 (-y)] 3))
                have HZ6 : Hid (w1.heap.size ≤ (wr.alloc (.cells #[.int .i64 (-y)] 3)).heap.size) := Lib.hid HB6.out.size
                clear hfi
                go_wp2_with (first | (at_builtin; refine wpList_append_own_at _ rfl _ _ 40 rfl w1.heap.size 3 i0 (.int .i64 0) 1 8 Try.underlying40 hi ip0 ip1 ip2 rfl (by decide) _ _ _ rfl HO6.out ⟨wr.heap.size, 0, none⟩ 1 1 [.int .i64 (-y)] rfl rfl HN6.out (one_int _) HS63.out HSb.out HZ6.out ?_; intro v9 w9 hown9 hgrow9 _ _; obtain ⟨v9a, v9c, rfl⟩ := owns_shape hown9; have HO9 := Lib.hid hown9; have HB9 := Lib.hid (HB6.out.grown hgrow9 HZ6.out (fun g hg => HG5.out g hg)); clear hown9 hgrow9))
                go_roundw
                case rel => exact ⟨j + 1, by omega, by go_num, by rw [HF1.out, HFs.out, List.length_append, encI_snoc]; exact HO9.out, HB9.out⟩
                case measure => simp [intOf]; omega
              · have hyn' : (y == -v) = false := by simpa using hyn
                have hfi : flipI v y = y := if_neg (fun h => h.elim hyv hyn)
                clear hyn hyv
                rw [hfi] at HFs
                have HN6 := Lib.hid (cell_one_at wr (.int .i64 (y)) 3)
                have HO6 := Lib.hid (HO.out.alloc (.cells #[.int .i64 (y)] 3))
                have HB6 := Lib.hid (HBs.out.alloc HBs.out.size (.cells #[.int .i64 (y)] 3))
                have HZ6 : Hid (w1.heap.size ≤ (wr.alloc (.cells #[.int .i64 (y)] 3)).heap.size) := Lib.hid HB6.out.size
                clear hfi
                go_wp2_with (first | (at_builtin; refine wpList_append_own_at _ rfl _ _ 40 rfl w1.heap.size 3 i0 (.int .i64 0) 1 8 Try.underlying40 hi ip0 ip1 ip2 rfl (by decide) _ _ _ rfl HO6.out ⟨wr.heap.size, 0, none⟩ 1 1 [.int .i64 (y)] rfl rfl HN6.out (one_int _) HS63.out HSb.out HZ6.out ?_; intro v9 w9 hown9 hgrow9 _ _; obtain ⟨v9a, v9c, rfl⟩ := owns_shape hown9; have HO9 := Lib.hid hown9; have HB9 := Lib.hid (HB6.out.grown hgrow9 HZ6.out (fun g hg => HG5.out g hg)); clear hown9 hgrow9))
                go_roundw
                case rel => exact ⟨j + 1, by omega, by go_num, by rw [HF1.out, HFs.out, List.length_append, encI_snoc]; exact HO9.out, HB9.out⟩
                case measure => simp [intOf]; omega
          · have hjx2 : j = x.length := by omega
            have hc2 := keep hc hbs
            rw [hjx2, List.take_length] at hown
            have hfl : (x.map (flipI v)).length ≤ x.length := by rw [List.length_map]; omega
            have HS2 := HS
            generalize hfx : (x.take j).map (flipI v) = fx at *
            have hfe : fx = x.map (flipI v) := by rw [← hfx, hjx2, List.take_length]
            subst hfe
            clear hfx
            generalize x.map (flipI v) = f at *
            have hro := HRo.out.below hbs
            obtain ⟨vals, hov, hra⟩ := hro
            have HOv := Lib.hid hov; have HRa := Lib.hid hra
            have HO := Lib.hid hown; have HBs := Lib.hid hbs
            have hvl := hov.1
            clear hov hra hown hbs
            have HN6 := Lib.hid (cell_one_at wr (.slice va f.length vc) 40)
            have HO6 := Lib.hid (HOv.out.alloc (.cells #[.slice va f.length vc] 40))
            have HB6 := Lib.hid ((Below.refl wr.heap.size wr).alloc (Nat.le_refl _) (.cells #[.slice va f.length vc] 40))
            have HBw := Lib.hid ((HB.out.trans (HBs.out.mono HB.out.size)).alloc (Nat.le_trans HB.out.size HBs.out.size) (.cells #[.slice va f.length vc] 40))
            have HS63 : Hid (L.length + 1 ≤ maxLen) := Lib.hid (by unfold maxLen; omega)
            have HSb : Hid ((L.length + 1) * 24 ≤ 140737488355328) := Lib.hid (by omega)
            have HZ6 : Hid (w.heap.size ≤ (wr.alloc (.cells #[.slice va f.length vc] 40)).heap.size) := Lib.hid HBw.out.size
            have hfl2 : f.length ≤ 1000 := by omega
            have hL2 : L.length ≤ 1000 := by omega
            clear hfl hLn hvl
            go_wp2_with (first | (at_builtin; refine wpList_append_own_at _ rfl _ _ 22 rfl w.heap.size 40 j0 (.slice none 0 0) 1 24 Try.underlying22 hj jp0 jp1 jp2 rfl (by decide) _ _ _ rfl HO6.out ⟨wr.heap.size, 0, none⟩ 1 1 [.slice va f.length vc] rfl rfl HN6.out (by simp [Value.oneCell']) HS63.out HSb.out HZ6.out ?_; intro v9 w9 hown9 hgrow9 _ hat9; have HO9 := Lib.hid hown9; have HG9 := Lib.hid hgrow9; have HA9 := Lib.hid hat9; clear hown9 hgrow9 hat9))
            go_roundw
            case rel =>
              have hov := HOv.out
              have hsz := HBs.out.size
              obtain ⟨va', vc', e', hvc, hvi⟩ := ints_of_owns HO.out
              cases e'
              have hrows9 := RowsOwn.snoc (xs := f) (by have := hov.1; omega) (HRa.out.below HB6.out) HO9.out HG9.out HA9.out (hvi.below HB6.out) hvc (fun e => by
                subst e
                obtain ⟨_, ⟨e2, _⟩ | ⟨g, c, cur, e2, _⟩⟩ := HO.out
                · exact (Value.slice.inj e2).2.2
                · cases e2) (fun b' o' e => by
                subst e
                have h1 : w1.heap.size ≤ b' ∧ b' < wr.heap.size := owns_lt HO.out rfl
                have h2 := HB.out.size
                refine ⟨by omega, by simp; omega, fun e2 => ?_⟩
                obtain ⟨vals0, hov0, _⟩ := HRo.out
                have : w.heap.size ≤ b' ∧ b' < w1.heap.size := owns_lt hov0 e2.symm
                omega)
              refine ⟨k + 1, by omega, by go_num, ?_, HBw.out.grown HG9.out HZ6.out (fun g hg => (owns_lt hov hg).1)⟩
              rw [HL1.out, HS2.out]
              exact hrows9
            case measure => simp [intOf]; omega
    · obtain rfl : k = g.length := by omega
      go_wp2_with fail
      go_ret2
      exact ⟨⟨_, rfl, by rw [← HRes.out]; exact HRo.out⟩, HB.out⟩
end Go.Proofs.Ytahaoddilejpnaa
