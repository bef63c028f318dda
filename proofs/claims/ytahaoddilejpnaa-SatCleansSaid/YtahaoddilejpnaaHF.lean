/- Assign of the program. -/
import Derived.Test.YtahaoddilejpnaaHD
namespace Go.Proofs.Ytahaoddilejpnaa
open Go.RowKit

theorem contains_any (xs : List Int) (l : Int) (a : Option Addr) (cap : Nat) (w : World) (hin : IntsIn w a xs) (hl : xs.length ≤ 100000) :
    Calls Try.prog 45 #[.slice a xs.length cap, .int .i64 l] w fun e w' => e = .returned (.bool (hasB xs l)) ∧ w' = w := by
  by_cases hx : xs = []
  · subst hx
    exact Try.slices_Contains_int_empty a cap l w
  · obtain ⟨b, off, rfl, _⟩ := hin 0 (List.length_pos_iff.2 hx)
    refine (Try.slices_Contains_int b off xs.length cap xs l w (Nat.le_refl _) (by omega) fun j hj => ?_).mono fun e w' ⟨h1, h2⟩ => ⟨?_, h2⟩
    · obtain ⟨b', off', e, hc⟩ := hin j hj
      cases e
      exact hc
    · rw [h1, List.take_length]
      unfold hasB
      rw [List.contains_eq_any_beq]
      congr 2
      apply List.any_congr rfl
      intro x
      exact Bool.eq_iff_iff.2 ⟨fun h => by simp at h ⊢; exact h.symm, fun h => by simp at h ⊢; exact h.symm⟩
/-- One row more, that lies in a block of its own behind the world wr. -/
theorem RowsOwn.snoc_own {wr ws w9 : World} {v9 : Value} {base : Nat} {oa : Option Addr} {oc vc : Nat} {va : Option Addr} {L : List (List Int)} {f : List Int} {vals : List Value} {o : Obj}
    (hov : ws.ownsRow base 40 1 (.slice oa L.length oc) L.length vals) (hra : RowsAre ws base (Value.slice oa L.length oc).ownBlock L vals) (hgo : ∀ g, (Value.slice oa L.length oc).ownBlock = some g → g < wr.heap.size) (hbw : base ≤ wr.heap.size)
    (hown : ws.ownsRow wr.heap.size 3 1 (.slice va f.length vc) f.length (encI f)) (h9 : w9.ownsRow base 40 1 v9 (L.length + 1) (vals ++ [.slice va f.length vc])) (hg : (ws.alloc o).grownBy w9 (Value.slice oa L.length oc).ownBlock)
    (hat : v9.ownBlock = (Value.slice oa L.length oc).ownBlock ∨ v9.ownBlock = some (ws.alloc o).heap.size) : RowsOwn w9 base v9 (L ++ [f]) := by
  obtain ⟨va', vc', e', hvc, hvi⟩ := ints_of_owns hown
  cases e'
  have hb6 : Below ws.heap.size ws (ws.alloc o) := (Below.refl ws.heap.size ws).alloc (Nat.le_refl _) o
  refine RowsOwn.snoc (xs := f) (by have := hov.1; omega) (hra.below hb6) h9 hg hat (hvi.below hb6) hvc (fun e => by
    subst e
    obtain ⟨_, ⟨e2, _⟩ | ⟨g, c, cur, e2, _⟩⟩ := hown
    · exact (Value.slice.inj e2).2.2
    · cases e2) (fun b' o' e => by
    subst e
    have h1 : wr.heap.size ≤ b' ∧ b' < ws.heap.size := owns_lt hown rfl
    refine ⟨by omega, by simp; omega, fun e2 => ?_⟩
    have := hgo b' e2.symm
    omega)
set_option maxRecDepth 100000 in
set_option maxHeartbeats 4000000 in
theorem sAssign_any (n l : Int) (g : List (List Int)) (a : Option Addr) (cap : Nat) (w : World) (hin : RowsIn w a g) (hs : Short g) :
    Calls Try.prog 23 #[.int .i64 n, .slice a g.length cap, .int .i64 l] w fun e w' => (∃ v, e = .returned (.tuple #[v, .int .i64 (assignE n g l)]) ∧ RowsOwn w' w.heap.size v (assignR n g l)) ∧ Below w.heap.size w w' := by
  have hb0 : Below w.heap.size w (w.alloc (.cells #[.int .i64 l] 3)) := (Below.refl _ _).alloc (Nat.le_refl _) _
  have HB0 := Lib.hid hb0; clear hb0
  have hcn : (w.alloc (.cells #[.int .i64 l] 3)).cell? ⟨w.heap.size, 0, none⟩ = some (.int .i64 l) := by simp [go_sem]
  have HCN := Lib.hid hcn; clear hcn
  have HV := Lib.hid (sValidate_any n g a cap _ (hin.below HB0.out) hs)
  have HI := Lib.hid (hin.below HB0.out); have HR := Lib.hid hs.row; have hl := hs.len
  have hE1 : assignE n g l = if validE n g = 0 then (if litB n l then 0 else 1) else validE n g := rfl
  have hE2 : assignR n g l = if validE n g = 0 then (if litB n l then assignL l g else []) else [] := rfl
  have HL : Hid (validE n g = 0 → 0 ≤ n ∧ n ≤ 4000) := Lib.hid fun h => ⟨(validE_ok h).1, (validE_ok h).2.1⟩
  rw [hE1, hE2]
  clear hin hE1 hE2 hs
  generalize hw0 : w.alloc (.cells #[.int .i64 l] 3) = w0 at *
  have hsz0 : w0.heap.size = w.heap.size + 1 := by rw [← hw0]; simp
  have HS0 := Lib.hid hsz0
  have HW0 := Lib.hid hw0
  clear hsz0 hw0
  generalize validE n g = e at *
  by_cases he : e = 0
  rotate_left
  · have he' : (e != 0) = true := by simpa using he
    rw [if_neg he, if_neg he]
    clear HI HR
    generalize g.length = p at *
    go_enter Try.func23, Try.ntmps23
    go_wp2_with fail
    rw [HW0.out]
    go_wp2_with fail
    refine HV.out.mono ?_; rintro e w2 ⟨rfl, hb2⟩
    go_wp2_with fail
    go_ret2
    exact ⟨⟨_, rfl, RowsOwn.nil _ _⟩, HB0.out.trans (hb2.mono HB0.out.size)⟩
  subst he
  have HT := Lib.hid (fun W => sLit_any n l W (HL.out rfl))
  have HLb : Hid (litB n l = true → -4000 ≤ l ∧ l ≤ 4000) := Lib.hid fun h => by have := lit_bds h; have := HL.out rfl; omega
  rw [if_pos rfl, if_pos rfl]
  clear HL
  generalize litB n l = b at *
  cases b
  · clear HI HR
    generalize g.length = p at *
    go_enter Try.func23, Try.ntmps23
    go_wp2_with fail
    rw [HW0.out]
    go_wp2_with fail
    refine HV.out.mono ?_; rintro e w2 ⟨rfl, hb2⟩
    have hc2 := keep HCN.out hb2
    go_wp2_with fail
    refine (HT.out _).mono ?_; rintro e w3 ⟨rfl, rfl⟩
    go_wp2_with fail
    go_ret2
    exact ⟨⟨_, rfl, RowsOwn.nil _ _⟩, HB0.out.trans (hb2.mono HB0.out.size)⟩
  have HLb2 := Lib.hid (HLb.out rfl)
  rw [if_pos rfl, if_pos rfl]
  obtain ⟨j0, hj, jp0, jp1, jp2⟩ := info_parts Try.infoRow
  have HRes : Hid (assignL l (g.take g.length) = assignL l g) := Lib.hid (by rw [List.take_length])
  go_enter Try.func23, Try.ntmps23
  go_wp2_with fail
  rw [HW0.out]
  go_wp2_with fail
  refine HV.out.mono ?_; rintro e w2 ⟨rfl, hb2⟩
  have hc2 := keep HCN.out hb2
  have HB2 := Lib.hid hb2
  go_wp2_with fail
  refine (HT.out _).mono ?_; rintro e w3 ⟨rfl, rfl⟩
  clear hb2
  go_wp2_with fail
  clear hc2
  go_loopw [9, 24] (fun v i wr => ∃ k : Nat, k ≤ g.length ∧ i = .int .i64 k ∧ RowsOwn wr w0.heap.size v (assignL l (g.take k)) ∧ Below w0.heap.size w0 wr) (fun _ i _ => g.length - (intOf i).toNat)
  case atStart => exact ⟨0, Nat.zero_le _, rfl, RowsOwn.nil _ _, HB2.out⟩
  case round =>
    obtain ⟨k, hk, rfl, hro, hb⟩ := hrel
    obtain ⟨oa, oc, rfl⟩ := hro.shape
    have HRo := Lib.hid hro; have HB := Lib.hid hb
    have hcl := keep HCN.out hb
    clear hro
    by_cases hlt : k < g.length
    · obtain ⟨b, off, a', cap', rfl, hc, _, h0n, hix⟩ := HI.out.below hb k hlt
      have hr := HR.out k hlt
      have HHas := Lib.hid (contains_any (g.getD k []) l a' cap' wr hix (by omega))
      have HCl := Lib.hid (clone_any (g.getD k []) a' cap' wr hix h0n (by omega))
      have HS := Lib.hid (assign_succ l g k hlt)
      have hLn := assign_len l (g.take k)
      rw [List.length_take] at hLn
      clear hix hb h0n
      generalize hL1 : assignL l (g.take (k + 1)) = L1 at *
      have HL1 := Lib.hid hL1; clear hL1
      generalize assignL l (g.take k) = L at *
      generalize g.getD k [] = x at *
      generalize hasB x l = hb at *
      cases hb
      · have hL2 : L.length ≤ 1000 := by omega
        clear hLn
        go_wp2_with fail
        refine HHas.out.mono ?_; rintro e w4 ⟨rfl, rfl⟩
        go_wp2_with fail
        refine HCl.out.mono ?_; rintro e w5 ⟨⟨v5, rfl, hown5⟩, hb5⟩
        have HD := Lib.hid (del_any w.heap.size w4.heap.size l v5 x w5 HLb2.out hown5 ⟨by have := HB.out.size; have := HS0.out; omega, hb5.size⟩ (keep hcl hb5) (by omega))
        have HB5 := Lib.hid hb5
        clear hown5 hb5
        go_wp2_with fail
        refine HD.out.mono ?_; rintro e ws ⟨⟨v6, rfl, hown6⟩, hb6⟩
        have HS2 : Hid (L1 = L ++ [x.filter fun y => y != -l]) := Lib.hid (by rw [HS.out]; rfl)
        have hfl := filter_len x (fun y => y != -l)
        generalize x.filter (fun y => y != -l) = f at *
        obtain ⟨va, vc, rfl⟩ := owns_shape hown6
        have hbs : Below w4.heap.size w4 ws := HB5.out.trans hb6
        have hro := HRo.out.below hbs
        obtain ⟨vals, hov, hra⟩ := hro
        have HOv := Lib.hid hov; have HRa := Lib.hid hra
        have HO := Lib.hid hown6; have HBs := Lib.hid hbs
        clear hov hra hown6 hbs hb6
        have HN6 := Lib.hid (cell_one_at ws (.slice va f.length vc) 40)
        have HO6 := Lib.hid (HOv.out.alloc (.cells #[.slice va f.length vc] 40))
        have HBw := Lib.hid ((HB.out.trans (HBs.out.mono HB.out.size)).alloc (Nat.le_trans HB.out.size HBs.out.size) (.cells #[.slice va f.length vc] 40))
        have HS63 : Hid (L.length + 1 ≤ maxLen) := Lib.hid (by unfold maxLen; omega)
        have HSb : Hid ((L.length + 1) * 24 ≤ 140737488355328) := Lib.hid (by omega)
        have HZ6 : Hid (w0.heap.size ≤ (ws.alloc (.cells #[.slice va f.length vc] 40)).heap.size) := Lib.hid HBw.out.size
        clear hcl hc
        go_wp2_with (first | (at_builtin; refine wpList_append_own_at _ rfl _ _ 22 rfl w0.heap.size 40 j0 (.slice none 0 0) 1 24 Try.underlying22 hj jp0 jp1 jp2 rfl (by decide) _ _ _ rfl HO6.out ⟨ws.heap.size, 0, none⟩ 1 1 [.slice va f.length vc] rfl rfl HN6.out (by simp [Value.oneCell']) HS63.out HSb.out HZ6.out ?_; intro v9 w9 hown9 hgrow9 _ hat9; have HO9 := Lib.hid hown9; have HG9 := Lib.hid hgrow9; have HA9 := Lib.hid hat9; clear hown9 hgrow9 hat9))
        go_roundw
        case rel =>
          have hov := HOv.out
          refine ⟨k + 1, by omega, by go_num, ?_, HBw.out.grown HG9.out HZ6.out (fun g hg => (owns_lt hov hg).1)⟩
          rw [HL1.out, HS2.out]
          exact RowsOwn.snoc_own hov HRa.out (fun g hg => by
            obtain ⟨vals0, hov0, _⟩ := HRo.out
            exact (owns_lt hov0 hg).2) HB.out.size HO.out HO9.out HG9.out HA9.out
        case measure => simp [intOf]; omega
      · go_wp2_with fail
        refine HHas.out.mono ?_; rintro e w4 ⟨rfl, rfl⟩
        go_wp2_with fail
        go_roundw
        case rel => exact ⟨k + 1, by omega, by go_num, by rw [HL1.out, HS.out]; exact HRo.out, HB.out⟩
        case measure => simp [intOf]; omega
    · obtain rfl : k = g.length := by omega
      go_wp2_with fail
      go_ret2
      exact ⟨⟨_, rfl, by rw [← HRes.out]; exact HRo.out.base HB0.out.size⟩, HB0.out.trans (HB.out.mono HB0.out.size)⟩
end Go.Proofs.Ytahaoddilejpnaa
