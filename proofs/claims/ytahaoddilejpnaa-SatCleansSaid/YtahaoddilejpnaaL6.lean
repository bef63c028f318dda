/- The law SatCleans. -/
import Derived.Test.YtahaoddilejpnaaCX
import Derived.Test.YtahaoddilejpnaaHQ
import Derived.Test.YtahaoddilejpnaaL1
import Derived.Laws.AppendOwnNone
namespace Go.Proofs.Ytahaoddilejpnaa
open Go.RowKit

theorem clean_lits {n : Int} {g : List (List Int)} (h : AllLits n g) : AllLits n (cleanL g) := fun k hk x hx => by
  obtain ⟨k0, hk0, _, rfl⟩ := ((clean_facts g).2 k).1 hk
  exact h k0 hk0 x (((plain_facts k0).2 x).1 hx)
theorem cleanL_short {g : List (List Int)} (hs : Short g) : Short (cleanL g) := by
  have h1 := clean_take_len g g.length (Nat.le_refl _)
  rw [List.take_length] at h1
  have := hs.len
  refine ⟨by omega, fun k _ => ?_⟩
  have h2 := clean_short hs g.length k
  rw [List.take_length] at h2
  exact h2
theorem clean_valid {n : Int} {g : List (List Int)} (hs : Short g) (h : validE n g = 0) : validE n (cleanL g) = 0 := by
  have hok := validE_ok h
  have := (cleanL_short hs).len
  exact validE_zero hok.1 hok.2.1 (by omega) (clean_lits (allLits_of hok.2.2))
theorem clean_holds {n : Nat} {g : List (List Int)} (h : AllLits n g) (b : Nat) : holdsB (cleanL g) (bitsM n b) = holdsB g (bitsM n b) := by
  have hpl : ∀ k, (plainL k).any (litT (bitsM n b)) = k.any (litT (bitsM n b)) := fun k => by
    rw [Bool.eq_iff_iff, List.any_eq_true, List.any_eq_true]
    constructor
    · rintro ⟨x, hx, ht⟩; exact ⟨x, ((plain_facts k).2 x).1 hx, ht⟩
    · rintro ⟨x, hx, ht⟩; exact ⟨x, ((plain_facts k).2 x).2 hx, ht⟩
  unfold holdsB
  rw [Bool.eq_iff_iff, List.all_eq_true, List.all_eq_true]
  constructor
  · intro hc k hk
    rw [← hpl k]
    cases ht : tautB (plainL k)
    · exact hc _ (((clean_facts g).2 _).2 ⟨k, hk, ht, rfl⟩)
    · unfold tautB at ht
      rw [List.any_eq_true] at ht
      obtain ⟨l, hl, hn⟩ := ht
      have hl2 := h k hk l (((plain_facts k).2 l).1 hl)
      rw [List.any_eq_true]
      cases hv : litT (bitsM n b) l
      · exact ⟨-l, hasB_mem.1 hn, by rw [litT_neg hl2, hv]; rfl⟩
      · exact ⟨l, hl, hv⟩
  · intro hc k hk
    obtain ⟨k0, hk0, _, rfl⟩ := ((clean_facts g).2 k).1 hk
    rw [hpl]; exact hc k0 hk0
theorem clean_models {n : Int} {g : List (List Int)} (hs : Short g) (h : validE n g = 0) : modE n (cleanL g) = modE n g ∧ modN n (cleanL g) = modN n g := by
  have hv := clean_valid hs h
  have hok := validE_ok h
  have en : ((n.toNat : Nat) : Int) = n := by omega
  unfold modE modN
  rw [if_pos h, if_pos h, if_pos hv, if_pos hv]
  refine ⟨rfl, ?_⟩
  split
  · rw [cnt_eq, cnt_eq]
    exact count_congr fun b _ => clean_holds (by rw [en]; exact allLits_of hok.2.2) b
  · rfl
theorem cleanR_short {n : Int} {g : List (List Int)} (hs : Short g) : Short (cleanR n g) := by
  unfold cleanR
  split
  · exact cleanL_short hs
  · exact ⟨Nat.zero_le _, fun k hk => absurd hk (Nat.not_lt_zero _)⟩
theorem cleanR_again {n : Int} {g : List (List Int)} (hs : Short g) (h : validE n g = 0) : validE n (cleanR n g) = 0 ∧ cleanR n (cleanR n g) = cleanR n g ∧ modE n (cleanR n g) = modE n g ∧ modN n (cleanR n g) = modN n g := by
  have e : cleanR n g = cleanL g := by unfold cleanR; rw [if_pos h]
  rw [e]
  refine ⟨clean_valid hs h, ?_, clean_models hs h⟩
  unfold cleanR
  rw [if_pos (clean_valid hs h), clean_clean]
theorem ints_src {w : World} {ad : Addr} {xs : List Int} (h : IntsIn w (some ad) xs) : ∀ j u, (encI xs)[j]? = some u → w.cell? (ad.add j) = some u := fun j u hj => by
  have hl : j < xs.length := by
    rcases Nat.lt_or_ge j xs.length with h1 | h1
    · exact h1
    · rw [List.getElem?_eq_none (by rw [encI_len]; exact h1)] at hj; cases hj
  obtain ⟨b, off, e, hc⟩ := h j hl
  cases e
  rw [encI_get hl] at hj
  cases hj
  rw [← hc]
  congr 1
  unfold Addr.add
  split
  · rename_i h0; subst h0; rfl
  · rfl
theorem owns_empty (w : World) (B : Nat) (h : B ≤ w.heap.size) (e : TypeId) : (w.alloc (.cells #[] e)).ownsRow B e 1 (.slice (some ⟨w.heap.size, 0, none⟩) 0 0) 0 [] :=
  ⟨by simp, .inr ⟨w.heap.size, 0, #[], rfl, h, heap_at _ _ _ rfl, Nat.le_refl _, Nat.zero_le _, rfl, rfl⟩⟩
/-- Rows that may be written: where their numbers lie. -/
structure Writ (w : World) (base g c : Nat) (L : List (List Int)) (vals : List Value) : Prop where
  own : w.ownsRow base 40 1 (.slice (some ⟨g, 0, none⟩) L.length c) L.length vals
  row : ∀ k, k < L.length → ∃ a cap, vals[k]? = some (.slice a (L.getD k []).length cap) ∧ ∀ j, j < (L.getD k []).length → ∃ b off, a = some ⟨b, off, none⟩ ∧ base ≤ b ∧ b ≠ g ∧ w.frozen? ⟨b, off + j, none⟩ = false ∧ ∃ z, w.cell? ⟨b, off + j, none⟩ = some (.int .i64 z)
theorem Writ.set {w : World} {base g c b o : Nat} {L : List (List Int)} {vals : List Value} (h : Writ w base g c L vals) (hb : b ≠ g) (x : Int) : Writ (w.setCell ⟨b, o, none⟩ (.int .i64 x)) base g c L vals := by
  refine ⟨ownsRow_setCell_other h.own (fun e => hb (by cases e; rfl)) _, fun k hk => ?_⟩
  obtain ⟨a, cap, h1, h2⟩ := h.row k hk
  refine ⟨a, cap, h1, fun j hj => ?_⟩
  obtain ⟨b2, off, e, h3, h4, h5, z, h6⟩ := h2 j hj
  refine ⟨b2, off, e, h3, h4, by rw [World.frozen?_setCell]; exact h5, ?_⟩
  by_cases he : (⟨b2, off + j, none⟩ : Addr) = ⟨b, o, none⟩
  · rw [he] at h6 ⊢
    exact ⟨x, World.cell?_setCell_same _ _ _ h6⟩
  · exact ⟨z, by rw [World.cell?_setCell_other _ _ _ _ (fun e => he e.symm)]; exact h6⟩
theorem RowsFree.writ {w : World} {base : Nat} {v : Value} {L : List (List Int)} (h : RowsFree w base v L) (h0 : 0 < L.length) : ∃ g c vals, v = .slice (some ⟨g, 0, none⟩) L.length c ∧ Writ w base g c L vals := by
  obtain ⟨vals, ho, ha, hf⟩ := h
  obtain ⟨g, c, rfl, _⟩ := owns_cells ho h0
  refine ⟨g, c, vals, rfl, ho, fun k hk => ?_⟩
  obtain ⟨a, cap, h1, _, _, h3, h4⟩ := ha k hk
  refine ⟨a, cap, h1, fun j hj => ?_⟩
  obtain ⟨b, off, e, hc⟩ := h3 j hj
  obtain ⟨h5, _, h6⟩ := h4 b off e
  exact ⟨b, off, e, h5, fun e2 => h6 (by rw [e2]; rfl), (hf _ (List.mem_of_getElem? h1) b off _ _ (by rw [e])).2 _, _, hc⟩
set_option maxRecDepth 100000 in
set_option maxHeartbeats 8000000 in
theorem satCleans_any (n : Int) (g : List (List Int)) (a : Option Addr) (cap : Nat) (w : World) (hin : RowsIn w a g) (hg : g.length ≤ maxLen) (hr : ∀ k, k < g.length → (g.getD k []).length ≤ maxLen) :
    Calls Try.prog 9 #[.int .i64 n, .slice a g.length cap] w fun e w' => e = .returned (.bool true) ∧ Below w.heap.size w w' := by
  have HL := Lib.hid (long_any n g a cap w hin hg hr)
  have HK := Lib.hid known_any
  cases hlo : longB n g
  rotate_left
  · rw [hlo] at HL
    clear hin hg hr hlo
    generalize g.length = p at *
    go_enter Try.func9, Try.ntmps9
    go_wp2_with fail
    refine HL.out.mono ?_; rintro e w2 ⟨rfl, rfl⟩
    go_wp2_with fail
    refine (HK.out _).mono ?_; rintro e w2 ⟨rfl, hb2⟩
    go_wp2_with fail
    go_ret
    exact ⟨rfl, hb2⟩
  rw [hlo] at HL
  have hs := short_of hlo
  have HI := Lib.hid hin; have HR := Lib.hid hs.row; have hl := hs.len
  have HS := Lib.hid hs
  have HT := Lib.hid (fun k (hk : k < g.length) => show g.take (k + 1) = g.take k ++ [g.getD k []] by
    rw [List.take_succ_eq_append_getElem hk, List.getD_eq_getElem?_getD, List.getElem?_eq_getElem hk]; rfl)
  have HRes : Hid (g.take g.length = g) := Lib.hid List.take_length
  clear hin hg hr hlo hs
  obtain ⟨j0, hj0, jp0, jp1, jp2⟩ := info_parts Try.infoRow
  obtain ⟨i0, hi0, ip0, ip1, ip2⟩ := info_parts Try.infoInt
  go_enter Try.func9, Try.ntmps9
  go_wp2_with fail
  refine HL.out.mono ?_; rintro e w2 ⟨rfl, rfl⟩
  go_wp2_with fail
  go_loopw [5, 6] (fun v i wr => ∃ k : Nat, k ≤ g.length ∧ i = .int .i64 k ∧ RowsOwn wr w.heap.size v (g.take k) ∧ Below w.heap.size w wr) (fun _ i _ => g.length - (intOf i).toNat)
  case atStart => exact ⟨0, Nat.zero_le _, rfl, RowsOwn.nil _ _, Below.refl _ _⟩
  case round =>
    obtain ⟨k, hk, rfl, hro, hb⟩ := hrel
    obtain ⟨oa, oc, rfl⟩ := hro.shape
    have HRo := Lib.hid hro; have HB := Lib.hid hb
    clear hro
    by_cases hlt : k < g.length
    · have hki : (k : Int) < (g.length : Int) := by omega
      have hk00 : (0 : Int) ≤ (k : Int) := by omega
      obtain ⟨b, off, a', cap', rfl, hc, _, h0n, hix⟩ := HI.out.below hb k hlt
      have hr := HR.out k hlt
      have HTk := Lib.hid (HT.out k hlt)
      have hln : (g.take k).length ≤ 1000 := by rw [List.length_take]; omega
      have HXi := Lib.hid hix
      clear hix hb
      generalize hL1 : g.take (k + 1) = L1 at *
      have HL1 := Lib.hid hL1; clear hL1
      generalize hL0 : g.take k = L at *
      clear hL0
      generalize g.getD k [] = x at *
      have HE5 := Lib.hid (owns_empty wr wr.heap.size (Nat.le_refl _) 3)
      have HB5 := Lib.hid ((Below.refl wr.heap.size wr).alloc (Nat.le_refl _) (.cells #[] 3))
      have HC5 := Lib.hid (keep hc HB5.out)
      have HS63 : Hid (0 + x.length ≤ maxLen) := Lib.hid (by unfold maxLen; omega)
      have HSb : Hid ((0 + x.length) * 8 ≤ 140737488355328) := Lib.hid (by omega)
      have HS6b : Hid (L.length + 1 ≤ maxLen) := Lib.hid (by unfold maxLen; omega)
      have HSbb : Hid ((L.length + 1) * 24 ≤ 140737488355328) := Lib.hid (by omega)
      have HZ5 : Hid (wr.heap.size ≤ (wr.alloc (.cells #[] 3)).heap.size) := Lib.hid HB5.out.size
      have HXl : Hid ((encI x).length = x.length * 1) := Lib.hid (by rw [encI_len, Nat.mul_one])
      cases a' with
      | none =>
        have hx : x = [] := by
          rcases List.eq_nil_or_concat x with h | ⟨y, z, h⟩
          · exact h
          · obtain ⟨b, off, e, _⟩ := HXi.out 0 (by rw [h]; simp)
            cases e
        obtain rfl := h0n rfl
        subst hx
        have HB9 := HB5
        have HO9 : Hid ((wr.alloc (.cells #[] 3)).ownsRow wr.heap.size 3 1 (.slice (some ⟨wr.heap.size, 0, none⟩) ([] : List Int).length 0) ([] : List Int).length (encI [])) := HE5
        have hc5 : (wr.alloc (.cells #[] 3)).cell? ⟨b, off + k, none⟩ = some (.slice none 0 0) := HC5.out
        have hc0 : wr.cell? ⟨b, off + k, none⟩ = some (.slice none 0 0) := hc
        obtain ⟨vals, hov, hra⟩ := HRo.out.below HB9.out
        have HOv := Lib.hid hov
        have HRa := Lib.hid hra
        clear hov hra
        have HN6 : Hid (∀ j u, [Value.slice (some ⟨wr.heap.size, 0, none⟩) 0 0][j]? = some u → ((wr.alloc (.cells #[] 3)).alloc (.cells #[.slice (some ⟨wr.heap.size, 0, none⟩) 0 0] 40)).cell? ((⟨wr.heap.size + 1, 0, none⟩ : Addr).add j) = some u) := Lib.hid (by
          have h := cell_one_at (wr.alloc (.cells #[] 3)) (.slice (some ⟨wr.heap.size, 0, none⟩) 0 0) 40
          rwa [show (wr.alloc (.cells #[] 3)).heap.size = wr.heap.size + 1 by simp] at h)
        have HO6 := Lib.hid (HOv.out.alloc (.cells #[.slice (some ⟨wr.heap.size, 0, none⟩) 0 0] 40))
        have HBw := Lib.hid ((HB.out.trans (HB9.out.mono HB.out.size)).alloc (Nat.le_trans HB.out.size HB9.out.size) (.cells #[.slice (some ⟨wr.heap.size, 0, none⟩) 0 0] 40))
        have HZ6 : Hid (w.heap.size ≤ ((wr.alloc (.cells #[] 3)).alloc (.cells #[.slice (some ⟨wr.heap.size, 0, none⟩) 0 0] 40)).heap.size) := Lib.hid HBw.out.size
        clear hc HC5 HXl HSb HS63 hr h0n
        go_wp2_with (first | (at_builtin; refine wpList_append_own_at _ rfl _ _ 22 rfl w.heap.size 40 j0 (.slice none 0 0) 1 24 Try.underlying22 hj0 jp0 jp1 jp2 rfl (by decide) _ _ _ rfl HO6.out ⟨wr.heap.size + 1, 0, none⟩ 1 1 [.slice (some ⟨wr.heap.size, 0, none⟩) 0 0] rfl rfl HN6.out (by simp [Value.oneCell']) HS6b.out HSbb.out HZ6.out ?_; intro v10 w10 hown10 hgrow10 _ hat10; have HO10 := Lib.hid hown10; have HG10 := Lib.hid hgrow10; have HA10 := Lib.hid hat10; clear hown10 hgrow10 hat10))
        go_roundw
        case rel =>
          have hov := HOv.out
          refine ⟨k + 1, by omega, by go_num, ?_, HBw.out.grown HG10.out HZ6.out (fun g hg => (owns_lt hov hg).1)⟩
          rw [HL1.out, HTk.out]
          exact RowsOwn.snoc_own hov HRa.out (fun g hg => by
            obtain ⟨vals0, hov0, _⟩ := HRo.out
            exact (owns_lt hov0 hg).2) HB.out.size HO9.out HO10.out HG10.out HA10.out
        case measure => simp [intOf]; omega
      | some ad =>
        have hc5 := HC5.out
        have HXs := Lib.hid (ints_src (HXi.out.below HB5.out))
        go_wp2_with (first | (at_builtin; refine wpList_append_own_at _ rfl _ _ 40 rfl wr.heap.size 3 i0 (.int .i64 0) 1 8 Try.underlying40 hi0 ip0 ip1 ip2 rfl (by decide) _ _ _ rfl HE5.out ad x.length cap' (encI x) rfl HXl.out HXs.out (encI_one x) HS63.out HSb.out HZ5.out ?_; intro v9 w9 hown9 hgrow9 _ _; have hown9 : w9.ownsRow wr.heap.size 3 1 v9 x.length (encI x) := (by simpa using hown9); obtain ⟨va, vc, rfl⟩ := owns_shape hown9; have HO9 := Lib.hid hown9; have HB9 := Lib.hid (HB5.out.grown hgrow9 HZ5.out (fun g hg => by cases hg; exact Nat.le_refl _)); clear hown9 hgrow9; obtain ⟨vals, hov, hra⟩ := HRo.out.below HB9.out; have HOv := Lib.hid hov; have HRa := Lib.hid hra; clear hov hra; have HN6 := Lib.hid (cell_one_at w9 (.slice va x.length vc) 40); have HO6 := Lib.hid (HOv.out.alloc (.cells #[.slice va x.length vc] 40)); have HBw := Lib.hid ((HB.out.trans (HB9.out.mono HB.out.size)).alloc (Nat.le_trans HB.out.size HB9.out.size) (.cells #[.slice va x.length vc] 40)); have HZ6 : Hid (w.heap.size ≤ (w9.alloc (.cells #[.slice va x.length vc] 40)).heap.size) := Lib.hid HBw.out.size) | (at_builtin; refine wpList_append_own_at _ rfl _ _ 22 rfl w.heap.size 40 j0 (.slice none 0 0) 1 24 Try.underlying22 hj0 jp0 jp1 jp2 rfl (by decide) _ _ _ rfl HO6.out ⟨w9.heap.size, 0, none⟩ 1 1 [.slice va x.length vc] rfl rfl HN6.out (by simp [Value.oneCell']) HS6b.out HSbb.out HZ6.out ?_; intro v10 w10 hown10 hgrow10 _ hat10; have HO10 := Lib.hid hown10; have HG10 := Lib.hid hgrow10; have HA10 := Lib.hid hat10; clear hown10 hgrow10 hat10))
        go_roundw
        case rel =>
          have hov := HOv.out
          refine ⟨k + 1, by omega, by go_num, ?_, HBw.out.grown HG10.out HZ6.out (fun g hg => (owns_lt hov hg).1)⟩
          rw [HL1.out, HTk.out]
          exact RowsOwn.snoc_own hov HRa.out (fun g hg => by
            obtain ⟨vals0, hov0, _⟩ := HRo.out
            exact (owns_lt hov0 hg).2) HB.out.size HO9.out HO10.out HG10.out HA10.out
        case measure => simp [intOf]; omega
    · obtain rfl : k = g.length := by omega
      rw [HRes.out] at HRo ⊢
      obtain ⟨oa2, oc2, eo, hro1⟩ := HRo.out.rows
      cases eo
      have HRow := Lib.hid hro1
      have HBw := Lib.hid hb
      clear hb hro1
      generalize wr = w1 at *
      have HA := Lib.hid (sClean_any n g oa oc w1 HRow.out HS.out)
      have HSr := Lib.hid (cleanR_short (n := n) HS.out)
      have HBc : Hid (∀ W, Below w1.heap.size w1 W → Calls Try.prog 29 #[.int .i64 n, .slice a g.length cap] W fun e w' => (∃ v, e = .returned (.tuple #[v, .int .i64 (validE n g)]) ∧ RowsOwn w' W.heap.size v (cleanR n g)) ∧ Below W.heap.size W w') := Lib.hid fun W hb => rClean_any n g a cap W (HI.out.below (HBw.out.trans (hb.mono HBw.out.size))) HS.out
      have HMx : Hid (∀ W, Below w1.heap.size w1 W → Calls Try.prog 22 #[.int .i64 n, .slice a g.length cap] W fun e w' => e = .returned (.tuple #[.int .i64 (modN n g : Nat), .int .i64 (modE n g)]) ∧ Below W.heap.size W w') := Lib.hid fun W hb => sModels_any n g a cap W (HI.out.below (HBw.out.trans (hb.mono HBw.out.size))) HS.out
      have HAg : Hid (validE n g = 0 → validE n (cleanR n g) = 0 ∧ cleanR n (cleanR n g) = cleanR n g ∧ modE n (cleanR n g) = modE n g ∧ modN n (cleanR n g) = modN n g) := Lib.hid (cleanR_again HS.out)
      have HSame : Hid (∀ W b c cb cc, RowsIn W b (cleanR n g) → RowsIn W c (cleanR n g) → Calls Try.prog 21 #[.slice b (cleanR n g).length cb, .slice c (cleanR n g).length cc] W fun e w' => e = .returned (.bool true) ∧ Below W.heap.size W w') := Lib.hid fun W b c cb cc h1 h2 => sameLists_any _ b c cb cc W h1 h2 HSr.out
      have HAgn : Hid (∀ W b c, RowsIn W b (cleanR n g) → Calls Try.prog 28 #[.int .i64 n, .slice b (cleanR n g).length c] W fun e w' => (∃ v, e = .returned (.tuple #[v, .int .i64 (validE n (cleanR n g))]) ∧ RowsFree w' W.heap.size v (cleanR n (cleanR n g))) ∧ Below W.heap.size W w') := Lib.hid fun W b c h => sClean_any n _ b c W h HSr.out
      have HMy : Hid (∀ W b c, RowsIn W b (cleanR n g) → Calls Try.prog 22 #[.int .i64 n, .slice b (cleanR n g).length c] W fun e w' => e = .returned (.tuple #[.int .i64 (modN n (cleanR n g) : Nat), .int .i64 (modE n (cleanR n g))]) ∧ Below W.heap.size W w') := Lib.hid fun W b c h => sModels_any n _ b c W h HSr.out
      have HRl := Lib.hid HSr.out.row
      have hRl := HSr.out.len
      have HSo : Hid (∀ W, Below w1.heap.size w1 W → Calls Try.prog 21 #[.slice oa g.length oc, .slice a g.length cap] W fun e w' => e = .returned (.bool true) ∧ Below W.heap.size W w') := Lib.hid fun W hb => sameLists_any _ oa a oc cap W (HRow.out.below hb) (HI.out.below (HBw.out.trans (hb.mono HBw.out.size))) HS.out
      have hvv : (validE n g != validE n g) = false := by simp
      clear HR HS HT
      generalize hR : cleanR n g = R at *
      have HRe := Lib.hid hR; clear hR
      generalize hV : validE n g = V at *
      have HVe := Lib.hid hV; clear hV
      generalize g.length = p at *
      go_wp2_with fail
      refine HA.out.mono ?_; rintro e w2 ⟨⟨v2, rfl, hv2⟩, hb2⟩
      obtain ⟨a2, c2, e2, hr2⟩ := hv2.own.rows
      subst e2
      have HF2 := Lib.hid hv2; have HB2 := Lib.hid hb2; have HR2 := Lib.hid hr2
      clear hv2 hb2 hr2
      go_wp2_with fail
      refine (HBc.out _ HB2.out).mono ?_; rintro e w3 ⟨⟨v3, rfl, hv3⟩, hb3⟩
      obtain ⟨a3, c3, e3, hr3⟩ := hv3.rows
      subst e3
      have HB3 := Lib.hid (HB2.out.trans (hb3.mono HB2.out.size))
      have HF3 := Lib.hid (HF2.out.below hb3); have HR3 := Lib.hid (HR2.out.below hb3); have HQ3 := Lib.hid hr3
      clear hv3 hb3 hr3
      go_wp2_with fail
      refine (HSame.out w3 _ _ _ _ HR3.out HQ3.out).mono ?_; rintro e w4 ⟨rfl, hb4⟩
      have HB4 := Lib.hid (HB3.out.trans (hb4.mono HB3.out.size))
      have HF4 := Lib.hid (HF3.out.below hb4); have HR4 := Lib.hid (HR3.out.below hb4)
      clear hb4
      go_wp2_with fail
      refine (HAgn.out w4 _ _ HR4.out).mono ?_; rintro e w5 ⟨⟨v5, rfl, hv5⟩, hb5⟩
      obtain ⟨a5, c5, e5, hr5⟩ := hv5.own.rows
      subst e5
      have HB5 := Lib.hid (HB4.out.trans (hb5.mono HB4.out.size))
      have HF5 := Lib.hid (HF4.out.below hb5); have HR5 := Lib.hid (HR4.out.below hb5); have HQ5 := Lib.hid hr5
      clear hv5 hb5 hr5
      go_wp2_with fail
      refine (HMx.out w5 HB5.out).mono ?_; rintro e w6 ⟨rfl, hb6⟩
      have HB6 := Lib.hid (HB5.out.trans (hb6.mono HB5.out.size))
      have HF6 := Lib.hid (HF5.out.below hb6); have HR6 := Lib.hid (HR5.out.below hb6); have HQ6 := Lib.hid (HQ5.out.below hb6)
      clear hb6
      go_wp2_with fail
      refine (HMy.out w6 _ _ HR6.out).mono ?_; rintro e w7 ⟨rfl, hb7⟩
      have HB7 := Lib.hid (HB6.out.trans (hb7.mono HB6.out.size))
      have HF7 := Lib.hid (HF6.out.below hb7); have HR7 := Lib.hid (HR6.out.below hb7); have HQ7 := Lib.hid (HQ6.out.below hb7)
      clear hb7
      by_cases hV0 : V = 0
      · obtain ⟨g1, g2, g3, g4⟩ := HAg.out hV0
        rw [g2] at HQ7
        have HSm := Lib.hid (HSame.out w7 _ _ c5 c2 HQ7.out HR7.out)
        rw [g1, g2, g3, g4]
        subst hV0
        clear HA HBc HMx HAg HAgn HMy g1 g2 g3 g4 HSame
        go_wp2_with fail
        refine HSm.out.mono ?_; rintro e w8 ⟨rfl, hb8⟩
        have HB8 := Lib.hid (HB7.out.trans (hb8.mono HB7.out.size))
        have HF8 := Lib.hid (HF7.out.below hb8)
        clear hb8
        have HB8w := Lib.hid (HBw.out.trans (HB8.out.mono HBw.out.size))
        by_cases h0 : R.length = 0
        · have h0i : ((R.length : Nat) : Int) = 0 := by omega
          generalize R.length = rn at *
          subst h0
          go_wp2_with fail
          go_loopw [18] (fun i wr => i = .int .i64 0 ∧ w8 = wr) (fun _ _ => 0)
          case atStart => exact ⟨rfl, by trivial⟩
          case round =>
            obtain ⟨rfl, rfl⟩ := hrel
            go_wp2_with fail
            refine (HSo.out w8 HB8.out).mono ?_; rintro e w9 ⟨rfl, hb9⟩
            have HB9 := Lib.hid (HB8w.out.trans (hb9.mono HB8w.out.size))
            clear hb9
            go_wp2_with fail
            refine (HK.out _).mono ?_; rintro e w10 ⟨rfl, hb10⟩
            go_wp2_with fail
            go_ret
            exact ⟨rfl, HB9.out.trans (hb10.mono HB9.out.size)⟩
        · obtain ⟨g2, c2', vals, ev, hW⟩ := HF8.out.writ (by omega)
          cases ev
          have HW := Lib.hid hW
          clear hW h0
          go_wp2_with fail
          go_loopw [18] (fun i wr => ∃ k : Nat, k ≤ R.length ∧ i = .int .i64 k ∧ Writ wr w1.heap.size g2 c2 R vals ∧ Below w1.heap.size w1 wr) (fun i _ => R.length - (intOf i).toNat)
          case atStart => exact ⟨0, Nat.zero_le _, rfl, HW.out, HB8.out⟩
          case round =>
            obtain ⟨k, hk, rfl, hw, hb⟩ := hrel
            have HWr := Lib.hid hw; have HBr := Lib.hid hb
            clear hw hb
            by_cases hlt : k < R.length
            · have hki : (k : Int) < (R.length : Int) := by omega
              have hk00 : (0 : Int) ≤ (k : Int) := by omega
              have hnk := HRl.out k hlt
              obtain ⟨ak, ck, hvk, -⟩ := HWr.out.row k hlt
              have HVk := Lib.hid hvk
              clear hvk
              generalize hnn : (R.getD k []).length = nk at *
              have HNn := Lib.hid hnn; clear hnn
              go_wp2_with fail
              go_loopw [19] (fun i wr => ∃ j : Nat, j ≤ nk ∧ i = .int .i64 j ∧ Writ wr w1.heap.size g2 c2 R vals ∧ Below w1.heap.size w1 wr) (fun i _ => nk - (intOf i).toNat)
              case atStart => exact ⟨0, Nat.zero_le _, rfl, HWr.out, HBr.out⟩
              case round =>
                obtain ⟨j, hj, rfl, hw, hb⟩ := hrel
                have HWj := Lib.hid hw; have HBj := Lib.hid hb
                have hck := (World.ownsRow.cellAt hw.own k (by omega)).trans HVk.out
                by_cases hjn : j < nk
                · have hji : (j : Int) < (nk : Int) := by omega
                  have hj00 : (0 : Int) ≤ (j : Int) := by omega
                  obtain ⟨ak2, ck2, hv2, hcell⟩ := hw.row k hlt
                  have e2 := HVk.out.symm.trans hv2
                  obtain ⟨rfl, -, rfl⟩ : ak = ak2 ∧ nk = _ ∧ ck = ck2 := by simpa using e2
                  obtain ⟨bb, oo, rfl, hbb, hbg, hfz, z, hcz⟩ := hcell j (by rw [HNn.out]; exact hjn)
                  clear hcell hv2 e2 hw hb
                  go_wp2_with fail
                  go_roundw
                  case rel => exact ⟨j + 1, by omega, by go_num, HWj.out.set hbg _, HBj.out.setCell hbb _⟩
                  case measure => simp [intOf]; omega
                · have hji : ¬ (j : Int) < (nk : Int) := by omega
                  clear hw hb
                  go_wp2_with fail
                  go_roundw
                  case rel => exact ⟨k + 1, by omega, by go_num, HWj.out, HBj.out⟩
                  case measure => simp [intOf]; omega
            · have hki : ¬ (k : Int) < (R.length : Int) := by omega
              have HBrw := Lib.hid (HBw.out.trans (HBr.out.mono HBw.out.size))
              have HSr2 := Lib.hid (HSo.out wr HBr.out)
              go_wp2_with fail
              refine HSr2.out.mono ?_; rintro e w9 ⟨rfl, hb9⟩
              have HB9 := Lib.hid (HBrw.out.trans (hb9.mono HBrw.out.size))
              clear hb9
              go_wp2_with fail
              refine (HK.out _).mono ?_; rintro e w10 ⟨rfl, hb10⟩
              go_wp2_with fail
              go_ret
              exact ⟨rfl, HB9.out.trans (hb10.mono HB9.out.size)⟩
      · have hvn : (V != 0) = true := by simpa using hV0
        have HB8 := HB7
        have HF8 := HF7
        generalize w7 = w8 at *
        clear HA HBc HMx HAg HAgn HMy HSame
        have HB8w := Lib.hid (HBw.out.trans (HB8.out.mono HBw.out.size))
        by_cases h0 : R.length = 0
        · have h0i : ((R.length : Nat) : Int) = 0 := by omega
          generalize R.length = rn at *
          subst h0
          go_wp2_with fail
          go_loopw [18] (fun i wr => i = .int .i64 0 ∧ w8 = wr) (fun _ _ => 0)
          case atStart => exact ⟨rfl, by trivial⟩
          case round =>
            obtain ⟨rfl, rfl⟩ := hrel
            go_wp2_with fail
            refine (HSo.out w8 HB8.out).mono ?_; rintro e w9 ⟨rfl, hb9⟩
            have HB9 := Lib.hid (HB8w.out.trans (hb9.mono HB8w.out.size))
            clear hb9
            go_wp2_with fail
            refine (HK.out _).mono ?_; rintro e w10 ⟨rfl, hb10⟩
            go_wp2_with fail
            go_ret
            exact ⟨rfl, HB9.out.trans (hb10.mono HB9.out.size)⟩
        · obtain ⟨g2, c2', vals, ev, hW⟩ := HF8.out.writ (by omega)
          cases ev
          have HW := Lib.hid hW
          clear hW h0
          go_wp2_with fail
          go_loopw [18] (fun i wr => ∃ k : Nat, k ≤ R.length ∧ i = .int .i64 k ∧ Writ wr w1.heap.size g2 c2 R vals ∧ Below w1.heap.size w1 wr) (fun i _ => R.length - (intOf i).toNat)
          case atStart => exact ⟨0, Nat.zero_le _, rfl, HW.out, HB8.out⟩
          case round =>
            obtain ⟨k, hk, rfl, hw, hb⟩ := hrel
            have HWr := Lib.hid hw; have HBr := Lib.hid hb
            clear hw hb
            by_cases hlt : k < R.length
            · have hki : (k : Int) < (R.length : Int) := by omega
              have hk00 : (0 : Int) ≤ (k : Int) := by omega
              have hnk := HRl.out k hlt
              obtain ⟨ak, ck, hvk, -⟩ := HWr.out.row k hlt
              have HVk := Lib.hid hvk
              clear hvk
              generalize hnn : (R.getD k []).length = nk at *
              have HNn := Lib.hid hnn; clear hnn
              go_wp2_with fail
              go_loopw [19] (fun i wr => ∃ j : Nat, j ≤ nk ∧ i = .int .i64 j ∧ Writ wr w1.heap.size g2 c2 R vals ∧ Below w1.heap.size w1 wr) (fun i _ => nk - (intOf i).toNat)
              case atStart => exact ⟨0, Nat.zero_le _, rfl, HWr.out, HBr.out⟩
              case round =>
                obtain ⟨j, hj, rfl, hw, hb⟩ := hrel
                have HWj := Lib.hid hw; have HBj := Lib.hid hb
                have hck := (World.ownsRow.cellAt hw.own k (by omega)).trans HVk.out
                by_cases hjn : j < nk
                · have hji : (j : Int) < (nk : Int) := by omega
                  have hj00 : (0 : Int) ≤ (j : Int) := by omega
                  obtain ⟨ak2, ck2, hv2, hcell⟩ := hw.row k hlt
                  have e2 := HVk.out.symm.trans hv2
                  obtain ⟨rfl, -, rfl⟩ : ak = ak2 ∧ nk = _ ∧ ck = ck2 := by simpa using e2
                  obtain ⟨bb, oo, rfl, hbb, hbg, hfz, z, hcz⟩ := hcell j (by rw [HNn.out]; exact hjn)
                  clear hcell hv2 e2 hw hb
                  go_wp2_with fail
                  go_roundw
                  case rel => exact ⟨j + 1, by omega, by go_num, HWj.out.set hbg _, HBj.out.setCell hbb _⟩
                  case measure => simp [intOf]; omega
                · have hji : ¬ (j : Int) < (nk : Int) := by omega
                  clear hw hb
                  go_wp2_with fail
                  go_roundw
                  case rel => exact ⟨k + 1, by omega, by go_num, HWj.out, HBj.out⟩
                  case measure => simp [intOf]; omega
            · have hki : ¬ (k : Int) < (R.length : Int) := by omega
              have HBrw := Lib.hid (HBw.out.trans (HBr.out.mono HBw.out.size))
              have HSr2 := Lib.hid (HSo.out wr HBr.out)
              go_wp2_with fail
              refine HSr2.out.mono ?_; rintro e w9 ⟨rfl, hb9⟩
              have HB9 := Lib.hid (HBrw.out.trans (hb9.mono HBrw.out.size))
              clear hb9
              go_wp2_with fail
              refine (HK.out _).mono ?_; rintro e w10 ⟨rfl, hb10⟩
              go_wp2_with fail
              go_ret
              exact ⟨rfl, HB9.out.trans (hb10.mono HB9.out.size)⟩
end Go.Proofs.Ytahaoddilejpnaa
