/- The walk of time.Best. -/
import Derived.Test.YtccpjfppkahbmaaB5
import Derived.Sort.QuietIn
namespace Go.Proofs.Ytccpjfppkahbmaa
open Go.RowKit Go.Shelf PK

attribute [local go_sem] Oper.semAt_some

theorem cloneI_any (zs : List Int) (a : Option Addr) (cap : Nat) (w : World) (hin : IntsIn w a zs) (hl : zs.length ≤ 100000) :
    Calls Try.prog 60 #[.slice a zs.length cap] w fun e w' => (∃ v, e = .returned v ∧ w'.ownsRow w.heap.size 3 1 v zs.length (PK.encI zs)) ∧ Below w.heap.size w w' := by
  by_cases h0 : zs = []
  · subst h0
    cases a with
    | none =>
      refine (Try.slices_Clone_int_nil 0 cap w).mono ?_
      rintro e w' ⟨rfl, rfl⟩
      exact ⟨⟨_, rfl, owns_nil _ _ _ _⟩, Below.refl _ _⟩
    | some a =>
      refine (Try.slices_Clone_int_zero a cap w).mono ?_
      rintro e w' ⟨v, rfl, ho, _, hb⟩
      exact ⟨⟨_, rfl, ho⟩, hb⟩
  · obtain ⟨b, off, rfl, _⟩ := hin 0 (List.length_pos_iff.2 h0)
    refine (Try.slices_Clone_int b off zs.length cap zs w (Nat.le_refl _) (by omega) (fun j hj => by
      obtain ⟨b', o', e, hc⟩ := hin j hj
      simp only [Option.some.injEq, Addr.mk.injEq, and_true] at e
      obtain ⟨rfl, rfl⟩ := e
      exact hc)).mono ?_
    rintro e w' ⟨v, rfl, ho, _, hb⟩
    rw [List.take_length] at ho
    exact ⟨⟨_, rfl, ho⟩, hb⟩
/-- The cost of an order. -/
def costO (l : List Cd) (o : List Int) : Int := costN (applyL l o) o.length
theorem applyL_ok {l : List Cd} (hok : ∀ k, k < l.length → okC (atC l k) = true) {o : List Int} (hr : ∀ y, y ∈ o → 0 ≤ y ∧ y < (l.length : Int)) : ∀ k, k < (applyL l o).length → okC (atC (applyL l o) k) = true := fun k hk => by
  rw [applyL_len] at hk
  have h1 := hr (o.getD k 0) (by rw [getD_get hk]; exact List.getElem_mem hk)
  have e : atC (applyL l o) k = atC l (o.getD k 0).toNat := by
    rw [atC_get (by rw [applyL_len]; exact hk), getD_get hk]
    simp [applyL]
  rw [e]
  exact hok _ (by omega)
theorem costO_small (l : List Cd) (o : List Int) : 0 ≤ costO l o ∧ costO l o ≤ 13 * (o.length : Int) := by
  have := costN_small (applyL l o) o.length (by rw [applyL_len]; exact Nat.le_refl _)
  exact this
def bestV (l : List Cd) : List Int × Int := if fewE l = 0 then bestF (costO l) (dfsL l l.length []) else ([], 0)
def BestPost (l : List Cd) (w : World) (e : Ending) (w' : World) : Prop := (∃ a cap, e = .returned (.tuple #[.slice a (bestV l).1.length cap, .int .i64 (bestV l).2, .int .i64 (fewE l)]) ∧ IntsIn w' a (bestV l).1) ∧ Below w.heap.size w w'
/-- What the loop's cells hold. -/
structure BestSt (l : List Cd) (n₀ : Nat) (w : World) (B b0 bb bl : Nat) (la : Option Addr) (lc : Nat) (s : List (Value × List Int)) (M : Nat → Prop) (W : World) : Prop where
  p0 : W.cell? ⟨b0, 0, none⟩ = some (.slice la l.length lc)
  bx : ∃ v, Boxed W bb 25 v ∧ W.ownsRow B 3 1 v (bestF (costO l) (s.map (·.2))).1.length (PK.encI (bestF (costO l) (s.map (·.2))).1) ∧ ∀ g, v.ownBlock = some g → ¬ M g
  lx : Boxed W bl 3 (.int .i64 (bestF (costO l) (s.map (·.2))).2)
  sz : B ≤ W.heap.size
  bw : Below n₀ w W
variable {l : List Cd} {B b0 bb bl n₀ : Nat} {w : World} {la : Option Addr} {lc : Nat} {s : List (Value × List Int)} {M : Nat → Prop} {W W' : World}
theorem BestSt.grow (h : BestSt l n₀ w B b0 bb bl la lc s M W) {row : Option Nat} {M' : Nat → Prop} (hg : W.grownBy W' row) (h0 : some b0 ≠ row) (h1 : some bb ≠ row) (h2 : some bl ≠ row) (h3 : ∀ r, row = some r → n₀ ≤ r) (hn : n₀ ≤ B) (hr : ∀ v, Boxed W bb 25 v → ∀ g, v.ownBlock = some g → (∃ c t f, W.heap[g]? = some (.cells c t f)) → ¬ M g → row ≠ some g) (hm : ∀ k, M' k → M k ∨ W.heap.size ≤ k) : BestSt l n₀ w B b0 bb bl la lc s M' W' where
  p0 := by
    have e := hg.block b0 (block_lt_of_cell h.p0) h0
    exact cellOf h.p0 e
  bx := by
    obtain ⟨v, hv, ho, hb⟩ := h.bx
    refine ⟨v, hv.kept hg h1, ?_, fun g e hM => ?_⟩
    · rcases ho.2 with ⟨rfl, _⟩ | ⟨g, cap, cur, rfl, _, hgb, _⟩
      · exact ho.kept hg (.inl rfl)
      · exact ho.kept hg (.inr (hr _ hv g rfl ⟨_, _, _, hgb⟩ (hb g rfl)).symm)
    · rcases hm g hM with h4 | h4
      · exact hb g e h4
      · have := (owns_block ho e).2; omega
  lx := h.lx.kept hg h2
  sz := Nat.le_trans h.sz hg.size
  bw := h.bw.grown hg (by have := h.sz; omega) h3
theorem BestSt.below (h : BestSt l n₀ w B b0 bb bl la lc s M W) (hb : Below W.heap.size W W') (hn : n₀ ≤ B) : BestSt l n₀ w B b0 bb bl la lc s M W' :=
  h.grow (grown_of_below hb) (by simp) (by simp) (by simp) (fun r e => by cases e) hn (fun v _ g _ _ _ e => by cases e) (fun k hk => .inl hk)
theorem keepsFrom_below {B : Nat} (hb : Below W.heap.size W W') : KeepsFrom B W W' := ⟨hb.size, fun k _ _ hk _ => (hb.block k (Array.getElem?_eq_some_iff.1 hk).1).trans hk⟩
theorem best_skip {x : Value × List Int} (h : BestSt l n₀ w B b0 bb bl la lc s M W) (hn : n₀ ≤ B) (hm : ∀ k, M k → k < W.heap.size) (hb : Below W.heap.size W W') (h1 : 0 ≤ (bestF (costO l) (s.map (·.2))).2) (h2 : (bestF (costO l) (s.map (·.2))).2 ≤ costO l x.2) :
    KeepsFrom B W W' ∧ (∀ k, M k → W'.heap[k]? = W.heap[k]?) ∧ Below n₀ W W' ∧ BestSt l n₀ w B b0 bb bl la lc (s ++ [x]) M W' := by
  refine ⟨keepsFrom_below hb, fun k hk => hb.block k (hm k hk), hb.mono (by have := h.sz; omega), ?_⟩
  have e : bestF (costO l) ((s ++ [x]).map (·.2)) = bestF (costO l) (s.map (·.2)) := by
    rw [List.map_append, List.map_cons, List.map_nil, bestF_snoc]
    unfold bestS
    rw [if_neg (by omega)]
  have hs := h.below hb hn
  exact ⟨hs.p0, by rw [e]; exact hs.bx, by rw [e]; exact hs.lx, hs.sz, hs.bw⟩
theorem best_take {x : Value × List Int} {v : Value} {B' : Nat} (h : BestSt l n₀ w B b0 bb bl la lc s M W) (hn : n₀ ≤ B) (hm : ∀ k, M k → (k = bl + 1 ∨ B ≤ k) ∧ k < W.heap.size) (hb : Below W.heap.size W W') (hB' : W.heap.size ≤ B') (ho : W'.ownsRow B' 3 1 v x.2.length (PK.encI x.2))
    (hlt : n₀ ≤ bb ∧ bb < bl ∧ bl + 1 < B ∧ b0 < bb) (h1 : (bestF (costO l) (s.map (·.2))).2 < 0 ∨ costO l x.2 < (bestF (costO l) (s.map (·.2))).2) :
    KeepsFrom B W ((W'.setCell ⟨bb, 0, none⟩ v).setCell ⟨bl, 0, none⟩ (.int .i64 (costO l x.2))) ∧ (∀ k, M k → ((W'.setCell ⟨bb, 0, none⟩ v).setCell ⟨bl, 0, none⟩ (.int .i64 (costO l x.2))).heap[k]? = W.heap[k]?) ∧
      Below n₀ W ((W'.setCell ⟨bb, 0, none⟩ v).setCell ⟨bl, 0, none⟩ (.int .i64 (costO l x.2))) ∧ BestSt l n₀ w B b0 bb bl la lc (s ++ [x]) M ((W'.setCell ⟨bb, 0, none⟩ v).setCell ⟨bl, 0, none⟩ (.int .i64 (costO l x.2))) := by
  have e : bestF (costO l) ((s ++ [x]).map (·.2)) = (x.2, costO l x.2) := by
    rw [List.map_append, List.map_cons, List.map_nil, bestF_snoc]
    unfold bestS
    rw [if_pos h1]
  have hs := h.below hb hn
  obtain ⟨v0, hv0, _, _⟩ := hs.bx
  have hsz := h.sz
  have hB : Below n₀ W W' := hb.mono (by omega)
  have hg1 := grownBy_setCell' W' bb v
  have hg2 := grownBy_setCell' (W'.setCell ⟨bb, 0, none⟩ v) bl (.int .i64 (costO l x.2))
  have hob : ∀ g, v.ownBlock = some g → W.heap.size ≤ g := fun g hg => Nat.le_trans hB' (owns_block ho hg).1
  refine ⟨((keepsFrom_below hb).trans ((KeepsOthers.setCell _ _ _).from _)).trans ((KeepsOthers.setCell _ _ _).from _), fun k hk => ?_, (hB.setCell (p := ⟨bb, 0, none⟩) hlt.1 _).setCell (p := ⟨bl, 0, none⟩) (show n₀ ≤ bl by omega) _, ?_⟩
  · have := hm k hk
    rw [Below.heap_setCell _ _ _ _ (show k ≠ bl by omega), Below.heap_setCell _ _ _ _ (show k ≠ bb by omega)]
    exact hb.block k this.2
  · refine ⟨?_, ?_, ?_, ?_, ?_⟩
    · refine cellOf (W := W') hs.p0 ?_
      rw [Below.heap_setCell _ _ _ _ (show b0 ≠ bl by omega), Below.heap_setCell _ _ _ _ (show b0 ≠ bb by omega)]
    · rw [e]
      refine ⟨v, (hv0.set v).kept hg2 (by simp; omega), ?_, fun g hg hM => ?_⟩
      · have h3 := ho.kept hg1 (.inr (fun hg => by have := hob _ hg; omega))
        exact owns_base (h3.kept hg2 (.inr (fun hg => by have := hob _ hg; omega))) (by omega)
      · have := (hm g hM).2
        have := hob g hg
        omega
    · rw [e]
      exact (hs.lx.kept hg1 (by simp; omega)).set _
    · have h2 := hs.sz
      have h3 := hg1.size
      have h4 := hg2.size
      omega
    · exact (h.bw.trans hB).trans ((((Below.refl n₀ W').setCell (p := ⟨bb, 0, none⟩) hlt.1 _).setCell (p := ⟨bl, 0, none⟩) (show n₀ ≤ bl by omega) _))
set_option maxRecDepth 100000 in
set_option maxHeartbeats 4000000 in
theorem Best_any (l : List Cd) (a : Option Addr) (cap : Nat) (w : World) (hin : CdsIn w a l) (hlc : l.length ≤ cap) (hl : l.length ≤ 1099511627776) :
    Calls Try.prog 31 #[.slice a l.length cap] w (BestPost l w) := by
  have HFw := Lib.hid (fun (u : World) (hb : Below w.heap.size w u) => few_any l a cap u (hin.below hb) hl)
  unfold BestPost bestV
  by_cases hz : fewE l = 0
  · obtain ⟨hz1, h6⟩ := fewE_zero hz
    obtain ⟨_, hok⟩ := tErr_zero hz1
    rw [if_pos hz, hz]
    rw [hz] at HFw
    have HI := Lib.hid hin
    clear hin
    refine (callsIn_wide (n := 3)).1 ?_
    refine callsIn_of_wp_marks Try.func31 rfl trivial ?_ rfl
    simp only [Try.ntmps31, List.size_toArray, List.length_cons, List.length_nil, Nat.reduceAdd, Nat.reduceSub, Array.replicate_succ, Array.replicate_zero, List.push_toArray, List.append_toArray, List.nil_append, List.cons_append]
    gi_wp2_with fail
    have hb1 : Below w.heap.size w (w.alloc (.cells #[.slice a l.length cap] 22)) := (Below.refl _ _).alloc (Nat.le_refl _) _
    have hc1 := (Boxed.new w 22 (.slice a l.length cap)).cell
    have hs1 : (w.alloc (.cells #[.slice a l.length cap] 22)).heap.size = w.heap.size + 1 := by simp
    refine ⟨trivial, ?_⟩
    refine (callsIn_wide.2 (HFw.out _ hb1)).mono ?_; rintro e w2 ⟨rfl, hb2⟩
    have HB2 := Lib.hid (hb1.trans (hb2.mono hb1.size))
    have hc2 := keep hc1 hb2
    have hs2 := hb2.size
    rw [hs1] at hs2
    clear hb1 hb2 hc1 hs1 HFw
    have hal := (((Below.refl w2.heap.size w2).alloc (Nat.le_refl _) (.cells #[.slice none 0 0] 25)).alloc (by simp) (.cells #[.int .i64 (-1)] 3))
    have hbb := (Boxed.new w2 25 (.slice none 0 0)).alloc (.cells #[.int .i64 (-1)] 3)
    have hbl := Boxed.new (w2.alloc (.cells #[.slice none 0 0] 25)) 3 (.int .i64 (-1))
    have hsz : ((w2.alloc (.cells #[.slice none 0 0] 25)).alloc (.cells #[.int .i64 (-1)] 3)).heap.size = w2.heap.size + 2 := by simp
    rw [World.size_alloc] at hbl
    have hc3 := keep hc2 hal
    gi_wp2_with fail
    refine ⟨trivial, ?_⟩
    refine (callsIn_wide.2 (orders_any _ _ _ _)).mono ?_; rintro e w3 ⟨rfl, rfl⟩
    obtain ⟨W1, hW1⟩ : ∃ W1, (w2.alloc (.cells #[.slice none 0 0] 25)).alloc (.cells #[.int .i64 (-1)] 3) = W1 := ⟨_, rfl⟩
    rw [hW1] at hal hbb hbl hsz hc3 ⊢
    have hal2 := (Below.refl W1.heap.size W1).alloc (Nat.le_refl _) (.cells #[.slice a l.length cap] 22)
    have hcl := (Boxed.new W1 22 (.slice a l.length cap)).cell
    have hs0 : (W1.alloc (.cells #[.slice a l.length cap] 22)).heap.size = w2.heap.size + 3 := by simp [hsz]
    have hbb0 := hbb.alloc (.cells #[.slice a l.length cap] 22)
    have hbl0 := hbl.alloc (.cells #[.slice a l.length cap] 22)
    have hc0 := keep hc3 hal2
    have hB0 := (HB2.out.trans (hal.mono (by omega))).trans (hal2.mono (by omega))
    have hin0 := HI.out.below hB0
    rw [hsz] at hcl
    clear hal hbb hbl hc3 hW1 hal2 hc2
    have hq1 : Hid (w.heap.size ≤ w2.heap.size ∧ w2.heap.size < w2.heap.size + 1 ∧ w2.heap.size + 1 + 1 < w2.heap.size + 3 ∧ w.heap.size < w2.heap.size) := Lib.hid ⟨by omega, by omega, by omega, by omega⟩
    have HOk := Lib.hid hok
    have HI0 := Lib.hid hin0
    have hst0 : BestSt l w.heap.size w (w2.heap.size + 3) w.heap.size w2.heap.size (w2.heap.size + 1) a cap [] (fun k => k = w2.heap.size + 2) (W1.alloc (.cells #[.slice a l.length cap] 22)) := ⟨hc0, ⟨_, hbb0, owns_nil _ _ _ _, fun g hg => by cases hg⟩, hbl0, by omega, hB0⟩
    have HL6 := Lib.hid h6
    generalize W1.alloc (.cells #[.slice a l.length cap] 22) = W0 at *
    gi_wp2_with fail
    refine wpIn_rangeFunc_mine rfl (by omega) (gf := 91) (lb := #[.pointer (some ⟨w2.heap.size + 2, 0, none⟩)]) rfl trivial (enters_of Try.func91 (by kernel_rfl) rfl)
      (orders_seq l h6 hok a cap hlc (w2.heap.size + 2) 2 w.heap.size W0 hin0 hcl) (by omega) (fun k hk => by omega) (fun _ => rfl) (inO_put l.length)
      (fun pre M W => BestSt l w.heap.size w (w2.heap.size + 3) w.heap.size w2.heap.size (w2.heap.size + 1) a cap pre M W) ?abides hst0
      (fun x => { tmps := #[.slice a l.length cap, .pointer (some ⟨w.heap.size, 0, none⟩), .slice none 0 0, .int .i64 0, .int .i64 0, .int .i64 0, .pointer (some ⟨w2.heap.size, 0, none⟩), .pointer (some ⟨w2.heap.size + 1, 0, none⟩), x.1, undef, .slice a l.length cap, .int .i64 0, .int .i64 0, .bool false, undef, .slice a l.length cap, .func (.func 91) #[] #[.pointer (some ⟨w2.heap.size + 2, 0, none⟩)], x.1, undef, undef, undef, undef, undef, undef, undef, undef, undef, undef, undef, undef, undef, undef, undef, undef], defers := [] }) ?assign ?body ?done
    case abides =>
      intro s M A A' row hst hg hr M' hM'
      have hne : ∀ k, k < w2.heap.size + 2 → some k ≠ row := fun k hk e => by
        rcases hr k e.symm with ⟨h, _⟩ | ⟨_, h⟩ <;> omega
      refine hst.grow hg (hne _ (by omega)) (hne _ (by omega)) (hne _ (by omega)) (fun r e => ?_) (by omega) (fun v _ g _ hc hM e => ?_) hM'
      · rcases hr r e with ⟨h, _⟩ | ⟨_, h⟩ <;> omega
      · rcases hr g e with ⟨_, o, ho, hc2⟩ | ⟨h, _⟩
        · obtain ⟨c, t, f, hc⟩ := hc
          rw [ho] at hc
          cases hc
          cases hc2
        · exact hM h
    case assign =>
      intro L x W K hK
      gi_wp2
      simpa using hK
    case body =>
      rintro L pre M ⟨x1, o⟩ W hst hlt ⟨⟨hxl, hxr⟩, xa, xc, hx1, hxi⟩ hm
      simp only at hx1 hxl hxr hxi
      subst hx1
      have c0 := hst.p0
      have HAp := Lib.hid (apply_any l a cap o xa xc W (HI.out.below hst.bw) hxi (by omega) (fun k hk => hxr _ (by rw [getD_get hk]; exact List.getElem_mem hk)))
      have HCo := Lib.hid (fun (ra : Option Addr) (rc : Nat) (u : World) h => cost_any (applyL l o) ra rc u h (by rw [applyL_len]; omega) (applyL_ok HOk.out hxr))
      have HSt := Lib.hid hst; have HM := Lib.hid hm; have HXl := Lib.hid hxl
      have HXi := Lib.hid hxi
      have hcs := costO_small l o
      have HCO : Hid (costN (applyL l o) (applyL l o).length = costO l o) := Lib.hid (by rw [applyL_len]; rfl)
      rw [HCO.out, applyL_len] at HCo
      rw [hxl] at HAp HCo hcs
      have HTake := Lib.hid (fun v B' W' => @best_take l (w2.heap.size + 3) w.heap.size w2.heap.size (w2.heap.size + 1) w.heap.size w a cap pre M W W' (.slice xa l.length xc, o) v B' hst (by omega) (fun k hk => ⟨(hm k hk).1.imp (fun h => by omega) (fun h => by omega), (hm k hk).2⟩))
      have HSkip := Lib.hid (fun W' => @best_skip l (w2.heap.size + 3) w.heap.size w2.heap.size (w2.heap.size + 1) w.heap.size w a cap pre M W W' (.slice xa l.length xc, o) hst (by omega) (fun k hk => (hm k hk).2))
      clear hst hm hlt hxr hxi hxl hin0 hst0
      gi_wp2_with fail
      refine ⟨trivial, ?_⟩
      refine (CallsIn.inRound L (callsIn_wide.2 HAp.out)).mono ?_; rintro e w4 ⟨⟨v4, rfl, ho4⟩, hb4⟩
      obtain ⟨ra, rc, rfl, _, hin4⟩ := cds_of_owns ho4
      rw [applyL_len, HXl.out]
      have HC4 := Lib.hid (HCo.out ra rc w4 hin4)
      have HB4 := Lib.hid hb4
      have HSt4 := Lib.hid (HSt.out.below hb4 (by omega))
      clear ho4 hb4 hin4 HAp HCo
      gi_wp2_with fail
      refine ⟨trivial, ?_⟩
      refine (CallsIn.inRound L (callsIn_wide.2 HC4.out)).mono ?_; rintro e w5 ⟨rfl, hb5⟩
      have HB5 := Lib.hid (HB4.out.trans (hb5.mono HB4.out.size))
      have HSt5 := Lib.hid (HSt4.out.below hb5 (by omega))
      have d1 := HSt5.out.lx.cell
      clear hb5 HB4 HSt4 HC4 c0
      have HV : Hid (∀ u, Boxed w5 (w2.heap.size + 1) 3 u → u = .int .i64 (bestF (costO l) (pre.map (·.2))).2) := Lib.hid (fun u hu => by
        have h1 := hu.cell
        rw [d1] at h1
        exact (Option.some.inj h1).symm)
      generalize hlv : (bestF (costO l) (pre.map (·.2))).2 = lv at *
      clear hlv
      have hxl2 : (Value.slice xa l.length xc, o).2.length = l.length := HXl.out
      have HCl := Lib.hid (cloneI_any o xa xc w5 (HXi.out.below HB5.out) (by rw [HXl.out]; omega))
      rw [HXl.out] at HCl
      clear HV
      by_cases h0 : lv < 0
      · gi_wp2_with fail
        refine ⟨trivial, ?_⟩
        refine (CallsIn.inRound L (callsIn_wide.2 HCl.out)).mono ?_; rintro e w6 ⟨⟨v6, rfl, ho6⟩, hb6⟩
        have HT := Lib.hid (HTake.out v6 w5.heap.size w6 (HB5.out.trans (hb6.mono HB5.out.size)) HB5.out.size (by rw [hxl2]; exact ho6) hq1.out (.inl h0))
        obtain ⟨vb, hvb, _, _⟩ := (HSt5.out.below hb6 (by omega)).bx
        have hlb := (HSt5.out.below hb6 (by omega)).lx
        have e1 := hvb.cell; have f1 := hvb.frozen
        have e2 := hlb.cell; have f2 := hlb.frozen
        obtain ⟨va6, vc6, rfl⟩ := owns_shape ho6
        clear ho6 hb6 hvb hlb
        gi_wp2_with fail
        exact ⟨by rw [hs0]; exact HT.out.1, HT.out.2⟩
      · by_cases h1 : costO l o < lv
        · gi_wp2_with fail
          refine ⟨trivial, ?_⟩
          refine (CallsIn.inRound L (callsIn_wide.2 HCl.out)).mono ?_; rintro e w6 ⟨⟨v6, rfl, ho6⟩, hb6⟩
          have HT := Lib.hid (HTake.out v6 w5.heap.size w6 (HB5.out.trans (hb6.mono HB5.out.size)) HB5.out.size (by rw [hxl2]; exact ho6) hq1.out (.inr h1))
          obtain ⟨vb, hvb, _, _⟩ := (HSt5.out.below hb6 (by omega)).bx
          have hlb := (HSt5.out.below hb6 (by omega)).lx
          have e1 := hvb.cell; have f1 := hvb.frozen
          have e2 := hlb.cell; have f2 := hlb.frozen
          obtain ⟨va6, vc6, rfl⟩ := owns_shape ho6
          clear ho6 hb6 hvb hlb
          gi_wp2_with fail
          exact ⟨by rw [hs0]; exact HT.out.1, HT.out.2⟩
        · have HS := Lib.hid (HSkip.out w5 HB5.out (by omega) (by exact (by omega : lv ≤ costO l o)))
          gi_wp2_with fail
          exact ⟨by rw [hs0]; exact HS.out.1, HS.out.2⟩
    case done =>
      rintro D xs M W hD hS hst hK
      obtain ⟨v, hv, ho, _⟩ := hst.bx
      have c1 := hv.cell
      have c2 := hst.lx.cell
      have HS := Lib.hid (show xs.map (·.2) = dfsL l l.length [] from hS)
      have HBw := Lib.hid hst.bw
      rw [HS.out] at c2 ho
      clear hst hv hS hin0
      generalize hbf : bestF (costO l) (dfsL l l.length []) = bf at *
      have HBf := Lib.hid hbf; clear hbf
      obtain ⟨ra, rc, rfl, _, hri⟩ := ints_of_owns ho
      gi_wp2_with fail
      gi_quiet (fail)
      gi_wp2_with fail
      have hK2 : (W.drewN nq).heap[D]? = some (.deferred (some [])) := hK
      have hri2 : IntsIn (W.drewN nq) ra bf.1 := hri
      refine ⟨by simp, .inl ⟨_, _, rfl, run_takeDeferred hK2, ?_⟩⟩
      refine ⟨.tuple #[.slice ra bf.1.length rc, .int .i64 bf.2, .int .i64 0], by simp [results, Try.results31, go_sem], ⟨ra, rc, by rw [HBf.out], ?_⟩, ?_⟩
      · rw [HBf.out]
        intro k hk
        obtain ⟨b, off, e, hc⟩ := hri2 k hk
        exact ⟨b, off, e, Go.cell_kept hc (grownBy_putObj' _ D _) (fun r' e => by cases e; exact ⟨_, hK2, rfl⟩)⟩
      · exact (below_drewN HBw.out nq).trans (belowK_b (w := w) (Nat.le_refl _) (W.drewN nq) D _ _ (by omega) hK2 rfl rfl)
  · rw [if_neg hz]
    generalize fewE l = fe at *
    have hb1 : Below w.heap.size w (w.alloc (.cells #[.slice a l.length cap] 22)) := (Below.refl _ _).alloc (Nat.le_refl _) _
    have hs1 : (w.alloc (.cells #[.slice a l.length cap] 22)).heap.size = w.heap.size + 1 := by simp
    have HFw := Lib.hid (HFw.out _ hb1)
    generalize l.length = n at *
    go_enter Try.func31, Try.ntmps31
    go_wp2_with fail
    refine HFw.out.mono ?_; rintro e w2 ⟨rfl, hb2⟩
    have HB2 := Lib.hid (hb1.trans (hb2.mono (by omega)))
    clear hb1 hb2 hs1 HFw
    go_wp2_with fail
    exact bodyPost_ret (v := .tuple #[.slice none 0 0, .int .i64 0, .int .i64 fe]) (by simp [results, Try.results31, go_sem]) rfl ⟨⟨none, 0, rfl, IntsIn.nil _ _⟩, HB2.out⟩
end Go.Proofs.Ytccpjfppkahbmaa
