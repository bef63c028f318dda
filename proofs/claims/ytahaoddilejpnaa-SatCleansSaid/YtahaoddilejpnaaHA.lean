/- Assign of the document. -/
import Derived.Test.YtahaoddilejpnaaHR
namespace Go.Proofs.Ytahaoddilejpnaa
open Go.RowKit

def hasB (k : List Int) (l : Int) : Bool := k.any fun x => x == l
def assignL (l : Int) (g : List (List Int)) : List (List Int) := (g.filter fun k => !hasB k l).map fun k => k.filter fun x => x != -l
theorem filter_take_succ (k : List Int) (p : Int → Bool) (j : Nat) (hj : j < k.length) : (k.take (j + 1)).filter p = if p (k.getD j 0) then (k.take j).filter p ++ [k.getD j 0] else (k.take j).filter p := by
  rw [List.take_add_one, List.filter_append, List.getElem?_eq_getElem hj, List.getD_eq_getElem?_getD, List.getElem?_eq_getElem hj]
  by_cases h : p k[j] <;> simp [h]
theorem assign_succ (l : Int) (g : List (List Int)) (k : Nat) (hk : k < g.length) : assignL l (g.take (k + 1)) = if hasB (g.getD k []) l then assignL l (g.take k) else assignL l (g.take k) ++ [(g.getD k []).filter fun x => x != -l] := by
  unfold assignL
  rw [List.take_add_one, List.filter_append, List.map_append, List.getElem?_eq_getElem hk, List.getD_eq_getElem?_getD, List.getElem?_eq_getElem hk]
  by_cases h : hasB g[k] l <;> simp [h]
theorem filter_len (k : List Int) (p : Int → Bool) : (k.filter p).length ≤ k.length := List.length_filter_le _ _
theorem assign_len (l : Int) (g : List (List Int)) : (assignL l g).length ≤ g.length := by
  unfold assignL; rw [List.length_map]; exact List.length_filter_le _ _
/-- What Assign answers. -/
def assignE (n : Int) (g : List (List Int)) (l : Int) : Int := if validE n g = 0 then (if litB n l then 0 else 1) else validE n g
def assignR (n : Int) (g : List (List Int)) (l : Int) : List (List Int) := if validE n g = 0 then (if litB n l then assignL l g else []) else []
set_option maxRecDepth 100000 in
theorem has_any (k : List Int) (l : Int) (a : Option Addr) (cap : Nat) (w : World) (hin : IntsIn w a k) (hl : k.length ≤ 1000000) :
    Calls Try.prog 48 #[.slice a k.length cap, .int .i64 l] w fun e w' => e = .returned (.bool (hasB k l)) ∧ w = w' := by
  have HI := Lib.hid hin; clear hin
  go_enter Try.func48, Try.ntmps48
  go_wp2_with fail
  go_loopw [5] (fun i wr => ∃ j : Nat, j ≤ k.length ∧ i = .int .i64 j ∧ w = wr ∧ ∀ i, i < j → (k.getD i 0 == l) = false) (fun i _ => k.length - (intOf i).toNat)
  case atStart => exact ⟨0, Nat.zero_le _, rfl, rfl, fun j hj => absurd hj (Nat.not_lt_zero _)⟩
  case round =>
    obtain ⟨j, hj, rfl, rfl, hny⟩ := hrel
    have HN := Lib.hid hny; clear hny
    by_cases hlt : j < k.length
    · obtain ⟨b, off, rfl, hc⟩ := HI.out j hlt
      generalize hx : k.getD j 0 = x at *
      have HX := Lib.hid hx; clear hx
      by_cases he : x = l
      · subst he
        have HT := Lib.hid (any_at (p := fun y => y == x) 0 hlt (by rw [HX.out]; simp))
        go_wp2_with fail
        go_ret
        exact ⟨ret_bool HT.out.symm, rfl⟩
      · have he2 : (x == l) = false := by simpa using he
        have HE := Lib.hid he2
        clear he
        go_wp2_with fail
        go_roundw
        case rel => exact ⟨j + 1, by omega, by go_num, by trivial, fun i hi => by
          by_cases e : i = j
          · rw [e, HX.out]; exact HE.out
          · exact HN.out i (by omega)⟩
        case measure => simp [intOf]; omega
    · have HT := Lib.hid (any_none (p := fun y => y == l) 0 hlt HN.out)
      have hjk : j = k.length := by omega
      go_wp2_with fail
      go_ret
      exact ⟨ret_bool HT.out.symm, rfl⟩
set_option maxRecDepth 100000 in
set_option maxHeartbeats 4000000 in
theorem rAssign_any (n l : Int) (g : List (List Int)) (a : Option Addr) (cap : Nat) (w : World) (hin : RowsIn w a g) (hs : Short g) :
    Calls Try.prog 24 #[.int .i64 n, .slice a g.length cap, .int .i64 l] w fun e w' => (∃ v, e = .returned (.tuple #[v, .int .i64 (assignE n g l)]) ∧ RowsOwn w' w.heap.size v (assignR n g l)) ∧ Below w.heap.size w w' := by
  have HV := Lib.hid (rValidate_any n g a cap w hin hs)
  have HI := Lib.hid hin; have HR := Lib.hid hs.row; have hl := hs.len
  have hE1 : assignE n g l = if validE n g = 0 then (if litB n l then 0 else 1) else validE n g := rfl
  have hE2 : assignR n g l = if validE n g = 0 then (if litB n l then assignL l g else []) else [] := rfl
  have HL : Hid (validE n g = 0 → 0 ≤ n ∧ n ≤ 4000) := Lib.hid fun h => ⟨(validE_ok h).1, (validE_ok h).2.1⟩
  rw [hE1, hE2]
  clear hin hE1 hE2 hs
  generalize validE n g = e at *
  by_cases he : e = 0
  rotate_left
  · have he' : (e != 0) = true := by simpa using he
    rw [if_neg he, if_neg he]
    clear HI HR
    generalize g.length = p at *
    go_enter Try.func24, Try.ntmps24
    go_wp2_with fail
    refine HV.out.mono ?_; rintro e w2 ⟨rfl, rfl⟩
    go_wp2_with fail
    go_ret2
    exact ⟨⟨_, rfl, RowsOwn.nil _ _⟩, Below.refl _ _⟩
  subst he
  have hn := HL.out rfl
  have HT := Lib.hid (rLit_any n l w hn)
  have HLb : Hid (litB n l = true → -4000 ≤ l ∧ l ≤ 4000) := Lib.hid fun h => by have := lit_bds h; omega
  rw [if_pos rfl, if_pos rfl]
  clear HL hn
  generalize litB n l = b at *
  cases b
  · clear HI HR
    generalize g.length = p at *
    go_enter Try.func24, Try.ntmps24
    go_wp2_with fail
    refine HV.out.mono ?_; rintro e w2 ⟨rfl, rfl⟩
    go_wp2_with fail
    refine HT.out.mono ?_; rintro e w2 ⟨rfl, rfl⟩
    go_wp2_with fail
    go_ret2
    exact ⟨⟨_, rfl, RowsOwn.nil _ _⟩, Below.refl _ _⟩
  have hlb := HLb.out rfl
  obtain ⟨hlb1, hlb2⟩ := hlb
  rw [if_pos rfl, if_pos rfl]
  obtain ⟨i0, hi, ip0, ip1, ip2⟩ := info_parts Try.infoInt
  obtain ⟨j0, hj, jp0, jp1, jp2⟩ := info_parts Try.infoRow
  have HRes : Hid (assignL l (g.take g.length) = assignL l g) := Lib.hid (by rw [List.take_length])
  go_enter Try.func24, Try.ntmps24
  go_wp2_with fail
  refine HV.out.mono ?_; rintro e w2 ⟨rfl, rfl⟩
  go_wp2_with fail
  refine HT.out.mono ?_; rintro e w2 ⟨rfl, rfl⟩
  go_wp2_with fail
  go_loopw [9, 10] (fun v i wr => ∃ k : Nat, k ≤ g.length ∧ i = .int .i64 k ∧ RowsOwn wr w.heap.size v (assignL l (g.take k)) ∧ Below w.heap.size w wr) (fun _ i _ => g.length - (intOf i).toNat)
  case atStart => exact ⟨0, Nat.zero_le _, rfl, RowsOwn.nil _ _, Below.refl _ _⟩
  case round =>
    obtain ⟨k, hk, rfl, hro, hb⟩ := hrel
    obtain ⟨oa, oc, rfl⟩ := hro.shape
    have HRo := Lib.hid hro; have HB := Lib.hid hb
    clear hro
    by_cases hlt : k < g.length
    · obtain ⟨b, off, a', cap', rfl, hc, _, _, hix⟩ := HI.out.below hb k hlt
      have hr := HR.out k hlt
      have HIx := Lib.hid hix
      have HHas := Lib.hid (has_any (g.getD k []) l a' cap' wr hix (by omega))
      have HS := Lib.hid (assign_succ l g k hlt)
      have hLn := assign_len l (g.take k)
      rw [List.length_take] at hLn
      clear hix hb
      generalize hL1 : assignL l (g.take (k + 1)) = L1 at *
      have HL1 := Lib.hid hL1; clear hL1
      generalize assignL l (g.take k) = L at *
      generalize g.getD k [] = x at *
      generalize hasB x l = hb at *
      cases hb
      · -- the clause stays
        go_wp2_with fail
        refine HHas.out.mono ?_; rintro e w2 ⟨rfl, rfl⟩
        go_wp2_with fail
        generalize wr = w1 at *
        go_loopw [11, 12] (fun v i ws => ∃ j : Nat, j ≤ x.length ∧ i = .int .i64 j ∧ ws.ownsRow w1.heap.size 3 1 v ((x.take j).filter fun y => y != -l).length (encI ((x.take j).filter fun y => y != -l)) ∧ Below w1.heap.size w1 ws) (fun _ i _ => x.length - (intOf i).toNat)
        case atStart => exact ⟨0, Nat.zero_le _, rfl, owns_nil _ _ _ _, Below.refl _ _⟩
        case round =>
          obtain ⟨j, hj', rfl, hown, hbs⟩ := hrel
          obtain ⟨va, vc, rfl⟩ := owns_shape hown
          by_cases hjx : j < x.length
          · obtain ⟨bx, ox, rfl, hcx⟩ := HIx.out.below hbs j hjx
            have hc2 := keep hc hbs
            have HFs := Lib.hid (filter_take_succ x (fun y => y != -l) j hjx)
            have hfl := filter_len (x.take j) (fun y => y != -l)
            rw [List.length_take] at hfl
            generalize hf1 : (x.take (j + 1)).filter (fun y => y != -l) = f1 at *
            have HF1 := Lib.hid hf1; clear hf1
            generalize (x.take j).filter (fun y => y != -l) = f0 at *
            generalize x.getD j 0 = y at *
            have HO := Lib.hid hown; have HBs := Lib.hid hbs
            clear hown hbs
            cases hyl : (y != -l)
            · have HF2 : Hid (f1 = f0) := Lib.hid (by rw [HFs.out, hyl]; rfl)
              go_wp2_with fail
              go_roundw
              case rel => exact ⟨j + 1, by omega, by go_num, by rw [HF1.out, HF2.out]; exact HO.out, HBs.out⟩
              case measure => simp [intOf]; omega
            · have HF2 : Hid (f1 = f0 ++ [y]) := Lib.hid (by rw [HFs.out, hyl]; rfl)
              have HN6 := Lib.hid (cell_one_at wr (.int .i64 y) 3)
              have HO6 := Lib.hid (HO.out.alloc (.cells #[.int .i64 y] 3))
              have HB6 := Lib.hid (HBs.out.alloc HBs.out.size (.cells #[.int .i64 y] 3))
              have HS63 : Hid (f0.length + 1 ≤ maxLen) := Lib.hid (by unfold maxLen; omega)
              have HSb : Hid ((f0.length + 1) * 8 ≤ 140737488355328) := Lib.hid (by omega)
              have HZ6 : Hid (w1.heap.size ≤ (wr.alloc (.cells #[.int .i64 y] 3)).heap.size) := Lib.hid HB6.out.size
              have HG5 : Hid (∀ g, (Value.slice va f0.length vc).ownBlock = some g → w1.heap.size ≤ g) := Lib.hid (fun g hg => (owns_lt HO.out hg).1)
              have hfl2 : f0.length ≤ 1000 := by omega
              clear hfl
              go_wp2_with (first | (at_builtin; refine wpList_append_own_at _ rfl _ _ 40 rfl w1.heap.size 3 i0 (.int .i64 0) 1 8 Try.underlying40 hi ip0 ip1 ip2 rfl (by decide) _ _ _ rfl HO6.out ⟨wr.heap.size, 0, none⟩ 1 1 [.int .i64 y] rfl rfl HN6.out (one_int _) HS63.out HSb.out HZ6.out ?_; intro v9 w9 hown9 hgrow9 _ _; obtain ⟨v9a, v9c, rfl⟩ := owns_shape hown9; have HO9 := Lib.hid hown9; have HB9 := Lib.hid (HB6.out.grown hgrow9 HZ6.out (fun g hg => HG5.out g hg)); clear hown9 hgrow9))
              go_roundw
              case rel => exact ⟨j + 1, by omega, by go_num, by rw [HF1.out, HF2.out, List.length_append, encI_snoc]; exact HO9.out, HB9.out⟩
              case measure => simp [intOf]; omega
          · have hjx2 : j = x.length := by omega
            have hc2 := keep hc hbs
            rw [hjx2, List.take_length] at hown
            have hfl := filter_len x (fun y => y != -l)
            have HS2 : Hid (L1 = L ++ [x.filter fun y => y != -l]) := Lib.hid (by rw [HS.out]; rfl)
            generalize hfx : (x.take j).filter (fun y => y != -l) = fx at *
            have hfe : fx = x.filter (fun y => y != -l) := by rw [← hfx, hjx2, List.take_length]
            subst hfe
            clear hfx
            generalize x.filter (fun y => y != -l) = f at *
            have hro := HRo.out.below hbs
            obtain ⟨vals, hov, hra⟩ := hro
            have HOv := Lib.hid hov; have HRa := Lib.hid hra
            have HO := Lib.hid hown; have HBs := Lib.hid hbs
            have hvl := hov.1
            clear hov hra hown hbs
            have HN6 := Lib.hid (cell_one_at wr (.slice va f.length vc) 40)
            have HO6 := Lib.hid (HOv.out.alloc (.cells #[.slice va f.length vc] 40))
            have HB6 := Lib.hid ((Below.refl wr.heap.size wr).alloc (Nat.le_refl _) (.cells #[.slice va f.length vc] 40))
            have HBw := Lib.hid ((HB.out.trans (HBs.out.mono HB.out.size)).alloc (Nat.le_trans HB.out.size HBs.out.size) (.cells #[.slice va f.length vc] 40))
            have HS63 : Hid (L.length + 1 ≤ maxLen) := Lib.hid (by unfold maxLen; omega)
            have HSb : Hid ((L.length + 1) * 24 ≤ 140737488355328) := Lib.hid (by omega)
            have HZ6 : Hid (w.heap.size ≤ (wr.alloc (.cells #[.slice va f.length vc] 40)).heap.size) := Lib.hid HBw.out.size
            have hfl2 : f.length ≤ 1000 := by omega
            have hL2 : L.length ≤ 1000 := by omega
            clear hfl hLn hvl
            go_wp2_with (first | (at_builtin; refine wpList_append_own_at _ rfl _ _ 22 rfl w.heap.size 40 j0 (.slice none 0 0) 1 24 Try.underlying22 hj jp0 jp1 jp2 rfl (by decide) _ _ _ rfl HO6.out ⟨wr.heap.size, 0, none⟩ 1 1 [.slice va f.length vc] rfl rfl HN6.out (by simp [Value.oneCell']) HS63.out HSb.out HZ6.out ?_; intro v9 w9 hown9 hgrow9 _ hat9; have HO9 := Lib.hid hown9; have HG9 := Lib.hid hgrow9; have HA9 := Lib.hid hat9; clear hown9 hgrow9 hat9))
            go_roundw
            case rel =>
              have hov := HOv.out
              have hsz := HBs.out.size
              obtain ⟨va', vc', e', hvc, hvi⟩ := ints_of_owns HO.out
              cases e'
              have hrows9 := RowsOwn.snoc (xs := f) (by have := hov.1; omega) (HRa.out.below HB6.out) HO9.out HG9.out HA9.out (hvi.below HB6.out) hvc (fun e => by
                subst e
                obtain ⟨_, ⟨e2, _⟩ | ⟨g, c, cur, e2, _⟩⟩ := HO.out
                · exact (Value.slice.inj e2).2.2
                · cases e2) (fun b' o' e => by
                subst e
                have h1 : w1.heap.size ≤ b' ∧ b' < wr.heap.size := owns_lt HO.out rfl
                have h2 := HB.out.size
                refine ⟨by omega, by simp; omega, fun e2 => ?_⟩
                obtain ⟨vals0, hov0, _⟩ := HRo.out
                have : w.heap.size ≤ b' ∧ b' < w1.heap.size := owns_lt hov0 e2.symm
                omega)
              refine ⟨k + 1, by omega, by go_num, ?_, HBw.out.grown HG9.out HZ6.out (fun g hg => (owns_lt hov hg).1)⟩
              rw [HL1.out, HS2.out]
              exact hrows9
            case measure => simp [intOf]; omega
      · go_wp2_with fail
        refine HHas.out.mono ?_; rintro e w2 ⟨rfl, rfl⟩
        go_wp2_with fail
        go_roundw
        case rel => exact ⟨k + 1, by omega, by go_num, by rw [HL1.out, HS.out]; exact HRo.out, HB.out⟩
        case measure => simp [intOf]; omega
    · obtain rfl : k = g.length := by omega
      go_wp2_with fail
      go_ret2
      exact ⟨⟨_, rfl, by rw [← HRes.out]; exact HRo.out⟩, HB.out⟩
end Go.Proofs.Ytahaoddilejpnaa
