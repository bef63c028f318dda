/- Clean of the program. -/
import Derived.Test.YtahaoddilejpnaaCT
namespace Go.Proofs.Ytahaoddilejpnaa
open Go.RowKit

/-- Of lists in order, the first of each run. -/
theorem comp_facts {L : List (List Int)} (h : L.Pairwise (fun a b => ¬ ltL b a)) : (compG L).Pairwise ltL ∧ ∀ x, x ∈ compG L ↔ x ∈ L := by
  have hget : ∀ i (hi : i < L.length), L.getD i [] = L[i] := fun i hi => by rw [List.getD_eq_getElem?_getD, List.getElem?_eq_getElem hi]; rfl
  have hle : ∀ i j, i ≤ j → j < L.length → ¬ ltL (L.getD j []) (L.getD i []) := fun i j hij hj => by
    rw [hget i (by omega), hget j hj]
    by_cases e : i = j
    · subst e; exact ltL_irrefl _
    · exact List.pairwise_iff_getElem.1 h i j (by omega) hj (by omega)
  have hlt : ∀ i j, i < j → j < L.length → keepsL L j = true → ltL (L.getD i []) (L.getD j []) := fun i j hij hj hk => by
    unfold keepsL at hk
    rw [show (j == 0) = false from beq_eq_false_iff_ne.2 (by omega), Bool.false_or] at hk
    have hne : L.getD j [] ≠ L.getD (j - 1) [] := by simpa using hk
    have h1 : ltL (L.getD (j - 1) []) (L.getD j []) := ltL_tri (hle (j - 1) j (by omega) hj) hne
    by_cases e : L.getD i [] = L.getD (j - 1) []
    · rw [e]; exact h1
    · exact ltL_trans (ltL_tri (hle i (j - 1) (by omega) (by omega)) fun h => e h.symm) h1
  constructor
  · unfold compG
    rw [List.pairwise_map, List.pairwise_iff_getElem]
    intro i j hi hj hij
    have hp : (keptI L L.length).Pairwise (· < ·) := List.pairwise_lt_range.filter _
    have h1 := List.pairwise_iff_getElem.1 hp i j hi hj hij
    have h2 := List.mem_filter.1 (List.getElem_mem hj)
    exact hlt _ _ h1 (List.mem_range.1 h2.1) h2.2
  · intro x
    unfold compG
    rw [List.mem_map]
    constructor
    · rintro ⟨i, hi, rfl⟩
      exact getD_mem L [] i (kept_lt hi)
    · intro hx
      have hfind : ∀ i, i < L.length → ∃ j, j ∈ keptI L L.length ∧ L.getD j [] = L.getD i [] := fun i => by
        induction i with
        | zero => exact fun hi => ⟨0, List.mem_filter.2 ⟨List.mem_range.2 hi, rfl⟩, rfl⟩
        | succ i ih =>
          intro hi
          by_cases hk : keepsL L (i + 1) = true
          · exact ⟨i + 1, List.mem_filter.2 ⟨List.mem_range.2 hi, hk⟩, rfl⟩
          · obtain ⟨j, h1, h2⟩ := ih (by omega)
            refine ⟨j, h1, h2.trans ?_⟩
            unfold keepsL at hk
            rw [show (i + 1 == 0) = false from rfl, Bool.false_or] at hk
            have : L.getD (i + 1) [] = L.getD i [] := by simpa using hk
            exact this.symm
      obtain ⟨i, hi, rfl⟩ := List.mem_iff_getElem.1 hx
      obtain ⟨j, h1, h2⟩ := hfind i hi
      exact ⟨j, h1, h2.trans (hget i hi)⟩
def plainsL (g : List (List Int)) : List (List Int) := (g.filter fun k => !tautB (plainL k)).map plainL
theorem plains_succ (g : List (List Int)) (k : Nat) (hk : k < g.length) : plainsL (g.take (k + 1)) = if tautB (plainL (g.getD k [])) then plainsL (g.take k) else plainsL (g.take k) ++ [plainL (g.getD k [])] := by
  unfold plainsL
  rw [List.take_succ_eq_append_getElem hk, List.filter_append, List.map_append, List.getD_eq_getElem?_getD, List.getElem?_eq_getElem hk]
  by_cases h : tautB (plainL g[k]) = true <;> simp [h]
theorem plains_len (g : List (List Int)) : (plainsL g).length ≤ g.length := by
  unfold plainsL
  rw [List.length_map]
  exact List.length_filter_le _ _
theorem plains_short {g : List (List Int)} (hs : Short g) : Short (plainsL g) := by
  refine ⟨Nat.le_trans (plains_len g) hs.len, fun k hk => ?_⟩
  have hm := getD_mem (plainsL g) [] k hk
  obtain ⟨x, hx, e⟩ := List.mem_map.1 hm
  rw [← e]
  refine Nat.le_trans (plain_len x) ?_
  obtain ⟨i, hi, rfl⟩ := List.mem_iff_getElem.1 (List.mem_filter.1 hx).1
  have := hs.row i hi
  rwa [List.getD_eq_getElem?_getD, List.getElem?_eq_getElem hi] at this
theorem short_perm {a b : List (List Int)} (h : a.Perm b) (hs : Short b) : Short a := by
  refine ⟨by rw [h.length_eq]; exact hs.len, fun k hk => ?_⟩
  have hm := h.mem_iff.1 (getD_mem a [] k hk)
  obtain ⟨i, hi, e⟩ := List.mem_iff_getElem.1 hm
  have := hs.row i hi
  rw [List.getD_eq_getElem?_getD, List.getElem?_eq_getElem hi] at this
  rw [← e]; exact this
theorem clean_end {g L : List (List Int)} (hp : L.Perm (plainsL g)) (hs : L.Pairwise (fun a b => ¬ ltL b a)) : compG L = cleanL g := by
  obtain ⟨h1, h2⟩ := comp_facts hs
  refine clean_is h1 fun y => ?_
  rw [h2, hp.mem_iff]
  unfold plainsL
  rw [List.mem_map]
  constructor
  · rintro ⟨k, hk, rfl⟩
    obtain ⟨h3, h4⟩ := List.mem_filter.1 hk
    exact ⟨k, h3, by simpa using h4, rfl⟩
  · rintro ⟨k, h3, h4, rfl⟩
    exact ⟨k, List.mem_filter.2 ⟨h3, by rw [h4]; rfl⟩, rfl⟩
/-- What the values point at may be written. -/
def FreeAre (w : World) (vals : List Value) : Prop := ∀ x ∈ vals, ∀ b off n c, x = .slice (some ⟨b, off, none⟩) n c → b < w.heap.size ∧ ∀ j, w.frozen? ⟨b, j, none⟩ = false
theorem FreeAre.keep {w w' : World} {vals vals' : List Value} (h : FreeAre w vals) (hs : ∀ x ∈ vals', x ∈ vals) (hk : FrzKeep w w') (hz : w.heap.size ≤ w'.heap.size) : FreeAre w' vals' := fun x hx b off n c e => by
  obtain ⟨h1, h2⟩ := h x (hs x hx) b off n c e
  exact ⟨by omega, fun j => hk b j h1 (h2 j)⟩
def RowsFree (w : World) (base : Nat) (v : Value) (L : List (List Int)) : Prop := ∃ vals, w.ownsRow base 40 1 v L.length vals ∧ RowsAre w base v.ownBlock L vals ∧ FreeAre w vals
theorem RowsFree.nil (w : World) (base : Nat) : RowsFree w base (.slice none 0 0) [] := ⟨[], owns_nil _ _ _ _, fun _ hk => absurd hk (Nat.not_lt_zero _), fun x hx => by cases hx⟩
theorem RowsFree.own {w : World} {base : Nat} {v : Value} {L : List (List Int)} (h : RowsFree w base v L) : RowsOwn w base v L := by
  obtain ⟨vals, h1, h2, _⟩ := h
  exact ⟨vals, h1, h2⟩
theorem RowsFree.below {w w' : World} {base : Nat} {v : Value} {L : List (List Int)} (h : RowsFree w base v L) (hb : Below w.heap.size w w') : RowsFree w' base v L := by
  obtain ⟨vals, h1, h2, h3⟩ := h
  exact ⟨vals, owns_below h1 hb, h2.below hb, h3.keep (fun _ h => h) ((FrzKeep.refl w).below (Nat.le_refl _) hb) hb.size⟩
theorem owns_unique {w : World} {B n : Nat} {e : TypeId} {v : Value} {xs ys : List Value} (h1 : w.ownsRow B e 1 v n xs) (h2 : w.ownsRow B e 1 v n ys) : xs = ys := by
  obtain ⟨l1, ⟨e1, z1⟩ | ⟨g, c, cur, e1, _, hg, _, _, _, t1⟩⟩ := h1
  · have : n = 0 := z1
    subst this
    have l2 := h2.1
    rw [List.eq_nil_of_length_eq_zero (by omega : xs.length = 0), List.eq_nil_of_length_eq_zero (by omega : ys.length = 0)]
  · obtain ⟨l2, ⟨e2, z2⟩ | ⟨g2, c2, cur2, e2, _, hg2, _, _, _, t2⟩⟩ := h2
    · rw [e1] at e2; cases e2
    · rw [e1] at e2
      cases e2
      rw [hg] at hg2
      cases hg2
      rw [← t1, ← t2]
theorem RowsFree.snoc_own {wr ws w9 : World} {v9 : Value} {base : Nat} {oa : Option Addr} {oc vc : Nat} {va : Option Addr} {L : List (List Int)} {f : List Int} {vals : List Value} {o : Obj}
    (hov : ws.ownsRow base 40 1 (.slice oa L.length oc) L.length vals) (hra : RowsAre ws base (Value.slice oa L.length oc).ownBlock L vals) (hfr : FreeAre ws vals) (hgo : ∀ g, (Value.slice oa L.length oc).ownBlock = some g → g < wr.heap.size) (hbw : base ≤ wr.heap.size)
    (hown : ws.ownsRow wr.heap.size 3 1 (.slice va f.length vc) f.length (encI f)) (h9 : w9.ownsRow base 40 1 v9 (L.length + 1) (vals ++ [.slice va f.length vc])) (hg : (ws.alloc o).grownBy w9 (Value.slice oa L.length oc).ownBlock)
    (hat : v9.ownBlock = (Value.slice oa L.length oc).ownBlock ∨ v9.ownBlock = some (ws.alloc o).heap.size) : RowsFree w9 base v9 (L ++ [f]) := by
  obtain ⟨vals', h1, h2⟩ := RowsOwn.snoc_own hov hra hgo hbw hown h9 hg hat
  have e : vals' = vals ++ [.slice va f.length vc] := owns_unique h1 (by rw [List.length_append]; exact h9)
  subst e
  have hb6 : Below ws.heap.size ws (ws.alloc o) := (Below.refl ws.heap.size ws).alloc (Nat.le_refl _) o
  have hfz : ∀ b j, b < ws.heap.size → some b ≠ (Value.slice oa L.length oc).ownBlock → ws.frozen? ⟨b, j, none⟩ = false → b < w9.heap.size ∧ w9.frozen? ⟨b, j, none⟩ = false := fun b j hb hne hf => by
    have hlt : b < (ws.alloc o).heap.size := Nat.lt_of_lt_of_le hb hb6.size
    refine ⟨Nat.lt_of_lt_of_le hlt hg.size, ?_⟩
    rw [World.frozen?_of_block (w := ws.alloc o) (hg.block b hlt hne), World.frozen?_of_block (w := ws) (hb6.block b hb)]
    exact hf
  refine ⟨_, h1, h2, fun x hx b off n c e => ?_⟩
  rcases List.mem_append.1 hx with hx | hx
  · obtain ⟨h3, h4⟩ := hfr x hx b off n c e
    obtain ⟨k, hk, ek⟩ := List.mem_iff_getElem.1 hx
    obtain ⟨a, cap, h5, _, _, _, h6⟩ := hra k (by have := hov.1; omega)
    rw [List.getElem?_eq_getElem hk, ek, e] at h5
    cases h5
    have hne := (h6 b off rfl).2.2
    exact ⟨(hfz b 0 h3 hne (h4 0)).1, fun j => (hfz b j h3 hne (h4 j)).2⟩
  · rw [List.mem_singleton] at hx
    rw [hx] at e
    cases e
    obtain ⟨h3, h4⟩ : wr.heap.size ≤ b ∧ b < ws.heap.size := owns_lt hown rfl
    have hne : some b ≠ (Value.slice oa L.length oc).ownBlock := fun e => by have := hgo b e.symm; omega
    have hfr0 : ∀ j, ws.frozen? ⟨b, j, none⟩ = false := fun j => by
      obtain ⟨_, ⟨e2, _⟩ | ⟨g, c2, cur, e2, _, hg2, _⟩⟩ := hown
      · cases e2
      · cases e2
        simp [World.frozen?, hg2]
    exact ⟨(hfz b 0 h4 hne (hfr0 0)).1, fun j => (hfz b j h4 hne (hfr0 j)).2⟩
def cleanR (n : Int) (g : List (List Int)) : List (List Int) := if validE n g = 0 then cleanL g else []
set_option maxRecDepth 100000 in
set_option maxHeartbeats 4000000 in
theorem sClean_any (n : Int) (g : List (List Int)) (a : Option Addr) (cap : Nat) (w : World) (hin : RowsIn w a g) (hs : Short g) :
    Calls Try.prog 28 #[.int .i64 n, .slice a g.length cap] w fun e w' => (∃ v, e = .returned (.tuple #[v, .int .i64 (validE n g)]) ∧ RowsFree w' w.heap.size v (cleanR n g)) ∧ Below w.heap.size w w' := by
  have HV := Lib.hid (sValidate_any n g a cap w hin hs)
  have HI := Lib.hid hin; have HR := Lib.hid hs.row; have hl := hs.len
  have hE2 : cleanR n g = if validE n g = 0 then cleanL g else [] := rfl
  rw [hE2]
  by_cases he : validE n g = 0
  rotate_left
  · have he' : (validE n g != 0) = true := by simpa using he
    rw [if_neg he]
    clear HI HR hE2 hin hs
    generalize validE n g = e at *
    generalize g.length = p at *
    go_enter Try.func28, Try.ntmps28
    go_wp2_with fail
    refine HV.out.mono ?_; rintro e w2 ⟨rfl, hb2⟩
    go_wp2_with fail
    go_ret2
    exact ⟨⟨_, rfl, RowsFree.nil _ _⟩, hb2⟩
  have hok := validE_ok he
  rw [if_pos he]
  rw [he] at HV ⊢
  have hal := allLits_of hok.2.2
  have HBd : Hid (∀ k, k < g.length → ∀ x ∈ g.getD k [], (-4000 ≤ x ∧ x ≤ 4000) ∧ x ≠ 0) := Lib.hid fun k hk x hx => by
    have := lit_bds (hal _ (getD_mem g [] k hk) x hx)
    omega
  have HEnd := Lib.hid (fun L => @clean_end g L)
  have HSh := Lib.hid (plains_short hs)
  have HRes : Hid (plainsL (g.take g.length) = plainsL g) := Lib.hid (by rw [List.take_length])
  clear hok hal hE2 hin hs he
  obtain ⟨j0, hj, jp0, jp1, jp2⟩ := info_parts Try.infoRow
  go_enter Try.func28, Try.ntmps28
  go_wp2_with fail
  refine HV.out.mono ?_; rintro e w2 ⟨rfl, hb2⟩
  have HB2 := Lib.hid hb2
  clear hb2
  go_wp2_with fail
  go_loopw [7, 20] (fun v i wr => ∃ k : Nat, k ≤ g.length ∧ i = .int .i64 k ∧ RowsFree wr w.heap.size v (plainsL (g.take k)) ∧ Below w.heap.size w wr) (fun _ i _ => g.length - (intOf i).toNat)
  case atStart => exact ⟨0, Nat.zero_le _, rfl, RowsFree.nil _ _, HB2.out⟩
  case round =>
    obtain ⟨k, hk, rfl, hro, hb⟩ := hrel
    obtain ⟨oa, oc, rfl⟩ := hro.own.shape
    have HRo := Lib.hid hro; have HB := Lib.hid hb
    clear hro
    by_cases hlt : k < g.length
    · obtain ⟨b, off, a', cap', rfl, hc, _, h0n, hix⟩ := HI.out.below hb k hlt
      have hr := HR.out k hlt
      have HPl := Lib.hid (plain_any (g.getD k []) a' cap' wr hix h0n hr fun x hx => (HBd.out k hlt x hx).1)
      have HT : Hid (((plainL (g.getD k [])).any fun l => decide (l < 0) && hasB (plainL (g.getD k [])) (-l)) = tautB (plainL (g.getD k []))) := Lib.hid (taut_half fun l hl => (HBd.out k hlt l (((plain_facts _).2 l).1 hl)).2)
      have HS := Lib.hid (plains_succ g k hlt)
      have hLn := plains_len (g.take k)
      rw [List.length_take] at hLn
      have hL2 : (plainsL (g.take k)).length ≤ 1000 := by omega
      unfold PlainPost at HPl
      rw [HT.out] at HPl
      clear hix hb h0n hLn HT
      generalize hL1 : plainsL (g.take (k + 1)) = L1 at *
      have HL1 := Lib.hid hL1; clear hL1
      generalize plainsL (g.take k) = L at *
      generalize g.getD k [] = x at *
      generalize tautB (plainL x) = tb at *
      generalize plainL x = f at *
      generalize x.length = xn at *
      cases tb
      · have HS2 : Hid (L1 = L ++ [f]) := Lib.hid (by rw [HS.out]; rfl)
        have HPl2 : Hid (Calls Try.prog 32 #[.slice a' xn cap'] wr fun e w' => (∃ v, e = .returned (.tuple #[v, .bool true]) ∧ w'.ownsRow wr.heap.size 3 1 v f.length (encI f)) ∧ Below wr.heap.size wr w') := HPl
        clear HPl
        go_wp2_with fail
        refine HPl2.out.mono ?_; rintro e ws ⟨⟨v5, rfl, hown5⟩, hb5⟩
        obtain ⟨va, vc, rfl⟩ := owns_shape hown5
        obtain ⟨vals, hov, hra, hfr⟩ := HRo.out.below hb5
        have HOv := Lib.hid hov; have HRa := Lib.hid hra; have HFr := Lib.hid hfr
        have HO := Lib.hid hown5; have HBs := Lib.hid hb5
        clear hov hra hown5 hb5 hfr
        have HN6 := Lib.hid (cell_one_at ws (.slice va f.length vc) 40)
        have HO6 := Lib.hid (HOv.out.alloc (.cells #[.slice va f.length vc] 40))
        have HBw := Lib.hid ((HB.out.trans (HBs.out.mono HB.out.size)).alloc (Nat.le_trans HB.out.size HBs.out.size) (.cells #[.slice va f.length vc] 40))
        have HS63 : Hid (L.length + 1 ≤ maxLen) := Lib.hid (by unfold maxLen; omega)
        have HSb : Hid ((L.length + 1) * 24 ≤ 140737488355328) := Lib.hid (by omega)
        have HZ6 : Hid (w.heap.size ≤ (ws.alloc (.cells #[.slice va f.length vc] 40)).heap.size) := Lib.hid HBw.out.size
        clear hc
        go_wp2_with (first | (at_builtin; refine wpList_append_own_at _ rfl _ _ 22 rfl w.heap.size 40 j0 (.slice none 0 0) 1 24 Try.underlying22 hj jp0 jp1 jp2 rfl (by decide) _ _ _ rfl HO6.out ⟨ws.heap.size, 0, none⟩ 1 1 [.slice va f.length vc] rfl rfl HN6.out (by simp [Value.oneCell']) HS63.out HSb.out HZ6.out ?_; intro v9 w9 hown9 hgrow9 _ hat9; have HO9 := Lib.hid hown9; have HG9 := Lib.hid hgrow9; have HA9 := Lib.hid hat9; clear hown9 hgrow9 hat9))
        go_roundw
        case rel =>
          have hov := HOv.out
          refine ⟨k + 1, by omega, by go_num, ?_, HBw.out.grown HG9.out HZ6.out (fun g hg => (owns_lt hov hg).1)⟩
          rw [HL1.out, HS2.out]
          exact RowsFree.snoc_own hov HRa.out HFr.out (fun g hg => by
            obtain ⟨vals0, hov0, _⟩ := HRo.out
            exact (owns_lt hov0 hg).2) HB.out.size HO.out HO9.out HG9.out HA9.out
        case measure => simp [intOf]; omega
      · have HS2 : Hid (L1 = L) := Lib.hid (by rw [HS.out]; rfl)
        have HPl2 : Hid (Calls Try.prog 32 #[.slice a' xn cap'] wr fun e w' => (∃ v, e = .returned (.tuple #[v, .bool false]) ∧ w'.ownsRow wr.heap.size 3 1 v f.length (encI f)) ∧ Below wr.heap.size wr w') := HPl
        clear HPl
        go_wp2_with fail
        refine HPl2.out.mono ?_; rintro e ws ⟨⟨v5, rfl, hown5⟩, hb5⟩
        obtain ⟨va, vc, rfl⟩ := owns_shape hown5
        have HRo5 := Lib.hid (HRo.out.below hb5)
        have HB5 := Lib.hid (HB.out.trans (hb5.mono HB.out.size))
        clear hown5 hb5
        go_wp2_with fail
        go_roundw
        case rel => exact ⟨k + 1, by omega, by go_num, by rw [HL1.out, HS2.out]; exact HRo5.out, HB5.out⟩
        case measure => simp [intOf]; omega
    · obtain rfl : k = g.length := by omega
      rw [HRes.out] at HRo ⊢
      obtain ⟨vals, hov, hra, hfr⟩ := HRo.out
      have HSo := Lib.hid (sortF_any w.heap.size _ (plainsL g) vals wr hov hra HSh.out)
      have HCo := Lib.hid (fun L vals u v (hp : L.Perm (plainsL g)) h1 h2 => compactF_any w.heap.size v L vals u h1 h2 (short_perm hp HSh.out))
      have HFr := Lib.hid hfr
      clear hb hov hra hfr
      generalize plainsL g = PL at *
      generalize PL.length = pn at *
      go_wp2_with fail
      refine HSo.out.mono ?_; rintro e w5 ⟨rfl, L', vals5, ho5, ha5, hperm, hsorted, hsub5, hb5, hf5⟩
      have HB5 := Lib.hid (HB.out.trans hb5)
      have HC5 := Lib.hid (HCo.out L' vals5 w5 _ hperm ho5 ha5)
      have HFr5 := Lib.hid (HFr.out.keep hsub5 hf5 hb5.size)
      have HE5 := Lib.hid (HEnd.out L' hperm hsorted)
      clear ho5 ha5 hperm hsorted hb5 hsub5 hf5
      go_wp2_with fail
      refine HC5.out.mono ?_; rintro e w6 ⟨⟨v6, vals6, rfl, ho6, ha6, hsub6⟩, hb6, hf6⟩
      rw [HE5.out] at ho6 ha6
      have HB6 := Lib.hid (HB5.out.trans hb6)
      have HR6 : Hid (RowsFree w6 w.heap.size v6 (cleanL g)) := Lib.hid ⟨vals6, ho6, ha6, HFr5.out.keep hsub6 hf6 hb6.size⟩
      obtain ⟨z6, c6, rfl⟩ := HR6.out.own.shape
      clear ho6 ha6 hb6 hsub6 hf6
      go_wp2_with fail
      go_ret2
      exact ⟨⟨_, rfl, HR6.out⟩, HB6.out⟩
end Go.Proofs.Ytahaoddilejpnaa
