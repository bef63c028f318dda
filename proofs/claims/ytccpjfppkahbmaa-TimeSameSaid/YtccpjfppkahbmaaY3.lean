/- The law TimeSame. -/
import Derived.Test.YtccpjfppkahbmaaY2
import Derived.Test.YtccpjfppkahbmaaMJ
import Derived.Test.YtccpjfppkahbmaaMG
import Derived.Test.YtccpjfppkahbmaaTD
import Derived.Deep.RegionHeld3
import Derived.Laws.AppendOwnNone
namespace Go.Proofs.Ytccpjfppkahbmaa
open Go.RowKit PK

theorem infoByRow : (Try.prog.info? 45).map (fun i => (i.zero, i.size, i.bytes)) = some (some (.slice none 0 0), 1, 24) := by kernel_rfl
theorem two_cells (w : World) (u v : Value) (t : TypeId) : (w.alloc (.cells #[u, v] t)).cell? ⟨w.heap.size, 0, none⟩ = some u ∧ (w.alloc (.cells #[u, v] t)).cell? ⟨w.heap.size, 1, none⟩ = some v := ⟨by simp [go_sem], by simp [go_sem]⟩
/-- A row of instructions that may be nil. -/
structure SideAt (w : World) (v : Value) (l : List Cd) : Prop where
  sl : ∃ a cap, v = .slice a l.length cap ∧ (a = none → cap = 0) ∧ CdsIn w a l
theorem SideAt.below {w w' : World} {v : Value} {l : List Cd} (h : SideAt w v l) (hb : Below w.heap.size w w') : SideAt w' v l := by
  obtain ⟨a, cap, e, h0, hi⟩ := h.sl
  exact ⟨a, cap, e, h0, hi.below hb⟩
theorem side_owns {w : World} {B : Nat} {v : Value} {l : List Cd} (h : w.ownsRow B 42 6 v l.length (encC l)) : SideAt w v l := by
  obtain ⟨a, cap, rfl, _, hi⟩ := cds_of_owns h
  refine ⟨a, cap, rfl, fun e => ?_, hi⟩
  subst e
  rcases h.2 with ⟨h1, _⟩ | ⟨g, c, cur, h1, _⟩
  · simp only [Value.slice.injEq] at h1; exact h1.2.2
  · simp only [Value.slice.injEq] at h1; cases h1.1
theorem imL {l M : List Cd} {order : List Int} (h : ∀ k, (atC l k).im < 4294967296) (hM : M = applyL l order) (k : Nat) : ∀ j i, j < [sideL l M k ++ [haltC]].length → i < (atB [sideL l M k ++ [haltC]] j).length → (atC (atB [sideL l M k ++ [haltC]] j) i).im < 4294967296 := by
  intro j i hj hi
  have hj0 : j = 0 := by simpa using hj
  subst hj0
  have hm : ∀ x ∈ sideL l M k ++ [haltC], x.im < 4294967296 := fun x hx => by
    rcases List.mem_append.1 hx with hx | hx
    · unfold sideL at hx
      split at hx
      · obtain ⟨q, _, rfl⟩ := mem_atC hx; exact h q
      · rw [hM] at hx
        unfold applyL at hx
        obtain ⟨q, _, rfl⟩ := List.mem_map.1 hx
        exact h _
    · rw [List.mem_singleton] at hx
      subst hx; decide
  exact hm _ (atC_mem (l := sideL l M k ++ [haltC]) hi)
theorem owns_none6 (w : World) : (w.alloc (.cells #[] 42)).ownsRow w.heap.size 42 6 (.slice (some ⟨w.heap.size, 0, none⟩) 0 0) 0 [] := by
  refine ⟨rfl, .inr ⟨w.heap.size, 0, #[], rfl, Nat.le_refl _, ?_, Nat.le_refl _, Nat.zero_le _, rfl, rfl⟩⟩
  exact heap_alloc_new _ _
theorem below_alloc {w w' : World} {o : Obj} (h : (w.alloc o).grownBy w' (some w.heap.size)) : Below w.heap.size w w' :=
  ⟨h.os, h.tape, h.output, Nat.le_trans (by simp) h.size, fun k hk => (h.block k (by simp; omega) (by simp; omega)).trans (heap_past w o k hk)⟩
/-- append of instructions that may be nil. -/
theorem wpList_append_codes {ops : Array Oper} {rest : List Oper} {o : Oper} {a : Act} {w : World} {Q : Exit → Act → World → Prop} (hgd : o.guard = none) (s x : Operand)
    (ho : o.op = .call { callee := .builtin .append, args := #[s, x], argTypes := #[22, 22] })
    (base : Nat) (v : Value) (n : Nat) (ys : List Value) (hs : a.eval s = v) (hown : w.ownsRow base 42 6 v n ys) (ad : Option Addr) (c : Nat) (xs : List Cd) (hx : a.eval x = .slice ad xs.length c) (hin : CdsIn w ad xs) (h0 : ad = none → c = 0)
    (h63 : n + xs.length ≤ maxLen) (hbytes : (n + xs.length) * 48 ≤ 140737488355328) (hbase : base ≤ w.heap.size)
    (h : ∀ v' w', w'.ownsRow base 42 6 v' (n + xs.length) (ys ++ encC xs) → w.grownBy w' v.ownBlock → wpList Try.prog ops Q rest (a.put o.dst v') w') : wpList Try.prog ops Q (o :: rest) a w := by
  obtain ⟨i0, hi, ip0, ip1, ip2⟩ := info_parts Try.infoCode
  cases ad with
  | none =>
    have hxs : xs = [] := by
      rcases xs with _ | ⟨y, ys⟩
      · rfl
      · obtain ⟨b, off, e, _⟩ := hin 0 (by simp)
        cases e
    subst hxs
    obtain rfl := h0 rfl
    exact wpList_append_own_none hgd s x 22 ho base 42 i0 6 Try.underlying22 hi v n ys hs hown hx (h v w (by simpa [encC] using hown) ⟨rfl, rfl, rfl, Nat.le_refl _, fun _ _ _ => rfl⟩)
  | some ad =>
    refine wpList_append_own_at w hgd s x 22 ho base 42 i0 _ 6 48 Try.underlying22 hi ip0 ip1 ip2 rfl (by decide) v n ys hs hown ad xs.length c (encC xs) hx (by rw [encC_len]) ?_ (encC_one _) h63 hbytes hbase (fun v' w' h1 h2 _ _ => h v' w' h1 h2)
    intro j u hj
    rcases xs with _ | ⟨y, ys⟩
    · cases hj
    · obtain ⟨b, off, e, _⟩ := hin 0 (by simp)
      cases e
      have := cds_cells hin j u hj
      rw [show (⟨b, off, none⟩ : Addr).add j = ⟨b, off + j, none⟩ by unfold Addr.add; simp]
      exact this
set_option maxRecDepth 100000 in
set_option maxHeartbeats 8000000 in
theorem timeSame_of (hW : WatchOK) (l : List Cd) (a : Option Addr) (cap : Nat) (order : List Int) (oa : Option Addr) (ocap : Nat) (words : List Int) (wa : Option Addr) (wcap : Nat) (w : World) (hin : CdsIn w a l) (hlc : l.length ≤ cap) (ha0 : a = none → cap = 0) (him : ∀ k, (atC l k).im < 4294967296) (ho : IntsIn w oa order) (hws : WsIn w wa words) (hww : ∀ k, k < words.length → isW (words.getD k 0)) (hwl : words.length ≤ maxLen) :
    Calls Try.prog 4 #[.slice a l.length cap, .slice oa order.length ocap, .slice wa words.length wcap] w fun e w' => e = .returned (.bool true) ∧ Below w.heap.size w w' := by
  have HK := Lib.hid known_any
  have HLo := Lib.hid (long_any l.length cap a w)
  by_cases h100 : (100 : Int) < (l.length : Int)
  · rw [decide_eq_true h100] at HLo
    clear hin h100 hlc ho ha0 him hws hww hwl hW
    generalize l.length = n at *
    generalize order.length = on at *
    generalize words.length = wn at *
    go_enter Try.func4, Try.ntmps4
    go_wp2_with fail
    refine HLo.out.mono ?_; rintro e w1 ⟨rfl, rfl⟩
    go_wp2_with fail
    refine (HK.out _).mono ?_; rintro e w2 ⟨rfl, hb2⟩
    go_wp2_with fail
    go_ret
    exact ⟨rfl, hb2⟩
  rw [decide_eq_false h100] at HLo
  by_cases h200 : (200 : Int) < (order.length : Int)
  · clear hin h100 hlc ho ha0 him hws hww hwl hW
    generalize l.length = n at *
    generalize order.length = on at *
    generalize words.length = wn at *
    go_enter Try.func4, Try.ntmps4
    go_wp2_with fail
    refine HLo.out.mono ?_; rintro e w1 ⟨rfl, rfl⟩
    go_wp2_with fail
    refine (HK.out _).mono ?_; rintro e w2 ⟨rfl, hb2⟩
    go_wp2_with fail
    go_ret
    exact ⟨rfl, hb2⟩
  have hl : l.length ≤ 1099511627776 := by omega
  have hol : order.length ≤ 100000 := by omega
  have H1 := Lib.hid (Apply_own l a cap order oa ocap w hin hlc hl ho hol)
  unfold ApplyOwn at H1
  by_cases hz : appE l order = 0
  · have hML : appL l order = applyL l order := by unfold appL; rw [if_pos hz]
    obtain ⟨hoz, hbeh⟩ := appE_zero hz
    obtain ⟨htz, hp⟩ := ordE_zero hoz
    rw [hz, hML] at H1
    have HSide : Hid (SideAt w (.slice a l.length cap) l) := Lib.hid ⟨a, cap, rfl, ha0, hin⟩
    have hM40 : (applyL l order).length ≤ 40 := by rw [applyL_len, hp.1]; exact (tErr_zero htz).1
    have hl40 := (tErr_zero htz).1
    have htzM : tErr (applyL l order) = 0 := by
      obtain ⟨h40, hok⟩ := tErr_zero htz
      refine tErr_ok (by omega) (fun k hk => ?_)
      rw [applyL_len] at hk
      have h1 := permO_get hp hk
      have e : atC (applyL l order) k = atC l (order.getD k 0).toNat := by
        rw [atC_get (by rw [applyL_len]; exact hk), getD_get hk]
        simp [applyL]
      rw [e]
      exact hok _ (by omega)
    have HSame := Lib.hid (fun (he : (runL l (memW words)).2.1 = 1) => runL_same (mem := memW words) htz hp hbeh he)
    have HIm := Lib.hid (fun k => imL (M := applyL l order) him rfl k)
    have HPr : Hid (∀ k, progErr 200 [sideL l (applyL l order) k ++ [haltC]] = 0) := Lib.hid (fun k => by
      unfold sideL
      split
      · exact prog_of htz
      · exact prog_of htzM)
    have HMy := Lib.hid (fun (u : World) (hu : Below w.heap.size w u) => Memory_any words wa wcap u (hws.below hu) hww hwl)
    have HWt := Lib.hid hW
    have hs40 : Hid (∀ k, (sideL l (applyL l order) k).length ≤ 40) := Lib.hid (fun k => by unfold sideL; split <;> assumption)
    clear hin hlc ha0 him ho hws hww hwl hz hML hoz hbeh htz hp hW htzM h100 hol hl
    generalize applyL l order = M at *
    generalize order.length = on at *
    generalize words.length = wn at *
    go_enter Try.func4, Try.ntmps4
    go_wp2_with fail
    refine HLo.out.mono ?_; rintro e w1 ⟨rfl, rfl⟩
    clear HLo
    go_wp2_with fail
    refine H1.out.mono ?_; rintro e w2 ⟨⟨vM, rfl, hoM⟩, hb2⟩
    have HSM := Lib.hid (side_owns hoM)
    have HB2 := Lib.hid hb2
    have HSl := Lib.hid (HSide.out.below hb2)
    obtain ⟨mA, mC, rfl⟩ := owns_shape hoM
    clear hb2 hoM H1 HSide
    go_wp2_with fail
    have hal := (Below.refl w2.heap.size w2).alloc (Nat.le_refl _) (.cells #[.slice a l.length cap, .slice mA M.length mC] 22)
    obtain ⟨hs0, hs1⟩ := two_cells w2 (.slice a l.length cap) (.slice mA M.length mC) 22
    have HB3 := Lib.hid (HB2.out.trans (hal.mono HB2.out.size))
    have HSl3 := Lib.hid (HSl.out.below hal)
    have HSM3 := Lib.hid (HSM.out.below hal)
    have HS0 := Lib.hid hs0; have HS1 := Lib.hid hs1
    clear hal hs0 hs1 HB2 HSl HSM
    generalize w2.alloc (.cells #[.slice a l.length cap, .slice mA M.length mC] 22) = w3 at *
    generalize w2.heap.size = sq at *
    generalize hmem : memW words = mem at *
    have hmb : ∀ x ∈ mem, PK.isB x := by rw [← hmem]; exact memW_b words
    have hml : mem.length = 32768 := by rw [← hmem]; exact memW_len words
    have HMb := Lib.hid hmb; have HMl := Lib.hid hml
    clear hmem hmb hml
    go_loopw [10, 11] (fun v i wr => ∃ k : Nat, k ≤ 2 ∧ i = .int .i64 k ∧ MemsAt wr w3.heap.size v l M mem k ∧ Below w3.heap.size w3 wr ∧ (0 < k → (runL l mem).2.1 = 1)) (fun _ i _ => 2 - (intOf i).toNat)
    case atStart => exact ⟨0, by omega, rfl, MemsAt.start _ _ _ _ _, Below.refl _ _, fun h => absurd h (by omega)⟩
    case round =>
      obtain ⟨k, hk, rfl, hms, hb, hend⟩ := hrel
      obtain ⟨va, vc, rfl⟩ := hms.shape
      by_cases hk2 : k < 2
      · have hki : (k : Int) < 2 := by omega
        have hk0 : (0 : Int) ≤ (k : Int) := by omega
        obtain ⟨sa, sc, hsc, hsn, hsi⟩ : ∃ sa sc, wr.cell? ⟨sq, k, none⟩ = some (.slice sa (sideL l M k).length sc) ∧ (sa = none → sc = 0) ∧ CdsIn wr sa (sideL l M k) := by
          have h1 := (HSl3.out.below hb).sl
          have h2 := (HSM3.out.below hb).sl
          have h3 := keep HS0.out hb
          have h4 := keep HS1.out hb
          unfold sideL
          by_cases e : k = 0
          · subst e
            obtain ⟨x, y, e1, e2, e3⟩ := h1
            rw [e1] at h3
            exact ⟨x, y, h3, e2, e3⟩
          · have e1 : k = 1 := by omega
            subst e1
            obtain ⟨x, y, e1, e2, e3⟩ := h2
            rw [e1] at h4
            exact ⟨x, y, h4, e2, e3⟩
        have hsl := hs40.out k
        have HSi := Lib.hid hsi; have HMs := Lib.hid hms; have HB := Lib.hid hb; have HEnd := Lib.hid hend
        have HPk := Lib.hid (HPr.out k)
        have HIk := Lib.hid (HIm.out k)
        have HRk : Hid (runM [sideL l M k ++ [haltC]] 0 0 100 ⟨List.replicate 200 0, mem, 0, 0, false⟩ 0 = runL (sideL l M k) mem) := Lib.hid rfl
        have HRm : Hid ((runL (sideL l M k) mem).1 = memR l M mem k) := Lib.hid rfl
        have HRl := Lib.hid (memR_len l M mem k)
        have HS0' : Hid (k = 0 → sideL l M k = l) := Lib.hid (fun e => if_pos e)
        have HS1' : Hid (k ≠ 0 → sideL l M k = M) := Lib.hid (fun e => if_neg e)
        clear hms hb hend hsi
        generalize sideL l M k = sd at *
        have HE0 := Lib.hid (owns_none6 wr)
        have hal4 := (Below.refl wr.heap.size wr).alloc (Nat.le_refl _) (.cells #[] 42)
        have HAl4 := Lib.hid hal4
        have HSi4 := Lib.hid (HSi.out.below hal4)
        have hsc4 := keep hsc hal4
        have HZ4 := Lib.hid hal4.size
        have HS63 : Hid (0 + sd.length ≤ maxLen) := Lib.hid (by unfold maxLen; omega)
        have HSb : Hid ((0 + sd.length) * 48 ≤ 140737488355328) := Lib.hid (by omega)
        clear hal4
        have HS63b : Hid (sd.length + 1 ≤ maxLen) := Lib.hid (by unfold maxLen; omega)
        have HSbb : Hid ((sd.length + 1) * 48 ≤ 140737488355328) := Lib.hid (by omega)
        obtain ⟨i0, hi, ip0, ip1, ip2⟩ := info_parts Try.infoCode
        go_wp2_with (first | (at_builtin; refine wpList_append_codes rfl _ _ rfl wr.heap.size (.slice (some ⟨wr.heap.size, 0, none⟩) 0 0) 0 [] rfl HE0.out sa sc sd rfl HSi4.out hsn HS63.out HSb.out HZ4.out ?_; intro v5 w5 hown5 hgrow5; rw [Nat.zero_add, List.nil_append] at hown5; obtain ⟨a5, c5, rfl⟩ := owns_shape hown5; have HO5 := Lib.hid hown5; have HB5 := Lib.hid (below_alloc hgrow5); have HO5a := Lib.hid (hown5.alloc (.cells #[.int .i64 26, .int .i64 0, .int .i64 0, .int .i64 0, .int .u32 0, .int .i64 0] 42)); have HN5 := Lib.hid (cell_six_at w5 (.int .i64 26) (.int .i64 0) (.int .i64 0) (.int .i64 0) (.int .u32 0) (.int .i64 0) 42); have hb5a := HB5.out.alloc HB5.out.size (.cells #[.int .i64 26, .int .i64 0, .int .i64 0, .int .i64 0, .int .u32 0, .int .i64 0] 42); have HB5a := Lib.hid hb5a; have HZ5 := Lib.hid hb5a.size; clear hown5 hgrow5 hb5a) | (at_builtin; refine wpList_append_own_at _ rfl _ _ 22 rfl wr.heap.size 42 i0 _ 6 48 Try.underlying22 hi ip0 ip1 ip2 rfl (by decide) (.slice a5 sd.length c5) _ _ rfl HO5a.out ⟨w5.heap.size, 0, none⟩ 1 1 [.int .i64 26, .int .i64 0, .int .i64 0, .int .i64 0, .int .u32 0, .int .i64 0] rfl rfl HN5.out (one_six _ _ _ _ 0 _) HS63b.out HSbb.out HZ5.out ?_; intro v6 w6 hown6 hgrow6 _ _; obtain ⟨a6, c6, rfl⟩ := owns_shape hown6; have HO6 := Lib.hid hown6; have HB6 := Lib.hid (HB5a.out.grown hgrow6 HZ5.out (fun g hg => (owns_block HO5.out hg).1)); clear hown6 hgrow6))
        have hcd6 : CdsIn w6 a6 (sd ++ [haltC]) := by
          have h6 := HO6.out
          have h7 : w6.ownsRow wr.heap.size 42 6 (.slice a6 (sd.length + 1) c6) (sd ++ [haltC]).length (encC (sd ++ [haltC])) := by
            rw [List.length_append, encC_snoc]; exact h6
          obtain ⟨a', c', e, _, hi⟩ := cds_of_owns h7
          rw [List.length_append] at e
          simp only [Value.slice.injEq, true_and, List.length_singleton] at e
          rw [e.1]; exact hi
        have hblk := blk_one w6 a6 c6 (sd ++ [haltC]) 22 hcd6
        rw [show (sd ++ [haltC]).length = sd.length + 1 by simp] at hblk
        have hb7 := (Below.refl w6.heap.size w6).alloc (Nat.le_refl _) (.cells #[.slice a6 (sd.length + 1) c6] 22)
        have hs7 : (w6.alloc (.cells #[.slice a6 (sd.length + 1) c6] 22)).heap.size = w6.heap.size + 1 := by simp
        have hb8 := (Below.refl (w6.alloc (.cells #[.slice a6 (sd.length + 1) c6] 22)).heap.size (w6.alloc (.cells #[.slice a6 (sd.length + 1) c6] 22))).alloc (Nat.le_refl _) (.cells #[.int .i64 200, .slice (some ⟨w6.heap.size, 0, none⟩) 1 1] 44)
        obtain ⟨q0, q1⟩ := two_cells (w6.alloc (.cells #[.slice a6 (sd.length + 1) c6] 22)) (.int .i64 200) (.slice (some ⟨w6.heap.size, 0, none⟩) 1 1) 44
        rw [hs7] at q0 q1
        have HBk := Lib.hid (hblk.below hb8)
        have hbr8 := (HB6.out.trans (hb7.mono HB6.out.size)).trans (hb8.mono (by have := HB6.out.size; rw [hs7]; omega))
        have HB8 := Lib.hid hbr8
        have HW8 := Lib.hid ((HB3.out.trans (HB.out.mono HB3.out.size)).trans (hbr8.mono (Nat.le_trans HB3.out.size HB.out.size)))
        clear hcd6 hblk hb7 hs7 hb8 hbr8 HO6 HB6 HB5a HB5 HO5a HO5 HN5 HZ5 HE0 HAl4 HSi4 hsc4 HZ4 HS63 HSb HS63b HSbb HSi hsc hsn
        generalize (w6.alloc (.cells #[.slice a6 (sd.length + 1) c6] 22)).alloc (.cells #[.int .i64 200, .slice (some ⟨w6.heap.size, 0, none⟩) 1 1] 44) = w8 at *
        generalize w6.heap.size = bq at *
        have HMyA := Lib.hid (fun (u : World) (hu : Below w8.heap.size w8 u) => HMy.out u (HW8.out.trans (hu.mono HW8.out.size)))
        have HExA : Hid (∀ (u : World) (g : Nat), Below w8.heap.size w8 u → BIn u (some ⟨g, 0, none⟩) mem → Calls Try.prog 22 #[.agg #[.int .i64 200, .slice (some ⟨bq, 0, none⟩) 1 1], .slice (some ⟨g, 0, none⟩) 32768 32768, .int .i64 100] u (ExecPost (runL sd mem) u)) := Lib.hid (fun u g hu hi => by
          have h := Execute_of HWt.out 200 [sd ++ [haltC]] (some ⟨bq, 0, none⟩) 1 mem (some ⟨g, 0, none⟩) 32768 100 u (HBk.out.below hu) HPk.out hi HMb.out (by rw [HMl.out]; omega) (by rw [HMl.out]; exact Nat.le_refl _) (by omega) HIk.out
          rw [HMl.out] at h
          exact h)
        unfold ExecPost at HExA
        clear HBk HIk HPk HMy HRk
        generalize hr : runL sd mem = r at *
        have HR := Lib.hid hr; clear hr
        obtain ⟨rm, re, rn, rt⟩ := r
        simp only at HExA HRm
        have HRl2 : Hid (rm.length = 32768) := Lib.hid (by rw [HRm.out, HRl.out]; exact HMl.out)
        go_region_held3 (fun w' => w'.cell? ⟨bq + 1, 0, none⟩ = some (.int .i64 200) ∧ w'.cell? ⟨bq + 1, 1, none⟩ = some (.slice (some ⟨bq, 0, none⟩) 1 1))
          (first | exact ⟨q0, q1⟩ | exact ⟨keep q0 (by assumption), keep q1 (by assumption)⟩)
          (first | (go_at_call 23; refine (HMyA.out _ (by first | exact Below.refl _ _ | exact (Below.refl _ _).drew)).mono ?_; rintro e w9 ⟨⟨g9, rfl, ho9⟩, hb9⟩; have hb9 := (by first | exact below_of_drew hb9 | exact hb9); have HI9 := Lib.hid (bin_owns ho9); have HB9 := Lib.hid hb9; clear ho9) | (go_at_call 22; refine (HExA.out _ g9 HB9.out HI9.out).mono ?_; rintro e w10 ⟨⟨g10, c10, rfl, ho10⟩, hb10⟩; have HO10 := Lib.hid ho10; have hb10 := HB9.out.trans (hb10.mono HB9.out.size); have HB10 := Lib.hid hb10; clear ho10))
        have hB10w := HB8.out.trans (HB10.out.mono HB8.out.size)
        have HB10w := Lib.hid hB10w
        have HMs10 := Lib.hid (HMs.out.below hB10w)
        have hwr10 := HB8.out.size
        have hg10 := owns_block HO10.out (g := g10) rfl
        have hw89 := HB9.out.size
        have HBI := Lib.hid (bin_owns HO10.out)
        have hRl := HRl2.out
        have HO10' := HO10.out
        clear HMyA HExA q0 q1 HB9 HI9 hB10w HO10
        have HEnd1 : Hid (re = 1 → (runL l mem).2.1 = 1) := Lib.hid (fun e => by
          by_cases h0 : k = 0
          · have h1 := HR.out
            rw [HS0'.out h0] at h1
            rw [h1]; exact e
          · exact HEnd.out (by omega))
        by_cases he : re = 1
        · have HE1 := Lib.hid (HEnd1.out he)
          subst he
          obtain ⟨vals, hov, hrs⟩ := HMs10.out
          have hovl := hov.1
          have hal11 := (Below.refl w10.heap.size w10).alloc (Nat.le_refl _) (.cells #[.slice (some ⟨g10, 0, none⟩) rm.length c10] 45)
          have hvb : ∀ g, (Value.slice va k vc).ownBlock = some g → w3.heap.size ≤ g ∧ g < wr.heap.size := by
            obtain ⟨_, hov0, _⟩ := HMs.out
            exact fun g hg => owns_block hov0 hg
          have HRow11 := Lib.hid (hov.alloc (.cells #[.slice (some ⟨g10, 0, none⟩) rm.length c10] 45))
          have HC11 := Lib.hid (cell_one_at w10 (.slice (some ⟨g10, 0, none⟩) rm.length c10) 45)
          have HB11 := Lib.hid (((HB.out.trans (HB10w.out.mono HB.out.size))).trans (hal11.mono (Nat.le_trans HB.out.size HB10w.out.size)))
          have hs11 : (w10.alloc (.cells #[.slice (some ⟨g10, 0, none⟩) rm.length c10] 45)).heap.size = w10.heap.size + 1 := by simp
          have HZ11 : Hid (w3.heap.size ≤ (w10.alloc (.cells #[.slice (some ⟨g10, 0, none⟩) rm.length c10] 45)).heap.size) := Lib.hid (by
            have h1 := HB3.out.size
            have h2 := HB11.out.size
            omega)
          have HSn := Lib.hid (fun v12 w12 ho12 hg12 hat12 => MemsAt.snoc (w := w10.alloc (.cells #[.slice (some ⟨g10, 0, none⟩) rm.length c10] 45)) (w' := w12) (B := w3.heap.size) (v := .slice va k vc) (v' := v12) (l := l) (M := M) (mem := mem) (k := k) (g := g10) (c := c10) (vals := vals) ho12 (by omega) (fun j hj => by
              obtain ⟨g, c, h1, h2, h3, h4⟩ := hrs j hj
              exact ⟨g, c, h1, h2.below hal11, by omega, h4⟩) hg12 hat12 (by rw [← HRm.out]; exact HBI.out.below hal11) (by omega) (fun e => by
              have := hvb g10 e.symm
              omega))
          rw [hRl] at HRow11 HC11 HSn HB11 HZ11
          rw [HMl.out] at HSn
          have HVb := Lib.hid hvb
          clear hov hrs hovl hal11 hvb hs11
          obtain ⟨j0, hj, jp0, jp1, jp2⟩ := info_parts infoByRow
          rw [hRl]
          have HS63 : Hid (k + 1 ≤ maxLen) := Lib.hid (by unfold maxLen; omega)
          have HSb : Hid ((k + 1) * 24 ≤ 140737488355328) := Lib.hid (by omega)
          clear hRl HO10'
          go_wp2_with (at_builtin; refine wpList_append_own_at _ rfl _ _ 39 rfl w3.heap.size 45 j0 (.slice none 0 0) 1 24 Try.underlying39 hj jp0 jp1 jp2 rfl (by decide) (.slice va k vc) _ _ rfl HRow11.out ⟨w10.heap.size, 0, none⟩ 1 1 [.slice (some ⟨g10, 0, none⟩) 32768 c10] rfl rfl HC11.out (by simp [Value.oneCell']) HS63.out HSb.out HZ11.out ?_; intro v12 w12 hown12 hgrow12 _ hat12; have HM12 := Lib.hid (HSn.out v12 w12 hown12 hgrow12 hat12); have HB12 := Lib.hid (HB11.out.grown hgrow12 HB11.out.size (fun g hg => (owns_block HRow11.out hg).1)); obtain ⟨va12, vc12, rfl⟩ := owns_shape hown12; clear hown12 hgrow12 hat12)
          go_roundw
          case rel => exact ⟨k + 1, by omega, by go_num, HM12.out, HB12.out, fun _ => HE1.out⟩
          case measure => simp [intOf]; omega
        · have hne : (re != 1) = true := by simpa using he
          by_cases h0 : k = 0
          · subst h0
            go_wp2_with fail
            refine (HK.out _).mono ?_; rintro e w11 ⟨rfl, hb11⟩
            have HBe := Lib.hid ((HB3.out.trans ((HB.out.trans (HB10w.out.mono HB.out.size)).mono HB3.out.size)).trans (hb11.mono (by have h1 := HB3.out.size; have h2 := HB.out.size; have h3 := HB10w.out.size; omega)))
            clear hb11
            go_wp2_with fail
            go_ret
            exact ⟨rfl, HBe.out⟩
          · exfalso
            have h1 := HR.out
            rw [HS1'.out h0] at h1
            have h2 := (HSame.out (HEnd.out (by omega))).1
            rw [h1] at h2
            exact he h2
      · obtain rfl : k = 2 := by omega
        obtain ⟨vals, hov, hrs⟩ := hms
        obtain ⟨gm, cm, ev, _, _, _, _, hcs, _⟩ := owns_cells hov (by omega)
        simp only [Value.slice.injEq, true_and] at ev
        obtain ⟨rfl, rfl⟩ := ev
        obtain ⟨g0, c0, hv0, hb0, _, _⟩ := hrs 0 (by omega)
        obtain ⟨g1, c1, hv1, hb1, _, _⟩ := hrs 1 (by omega)
        have k0 := hcs 0 _ hv0
        have k1 := hcs 1 _ hv1
        have heq : memR l M mem 1 = memR l M mem 0 := (HSame.out (hend (by omega))).2
        rw [heq] at hb1
        have hlen : (memR l M mem 0).length = mem.length := memR_len l M mem 0
        have HAp : Hid (∀ u : World, Below wr.heap.size wr u → Calls Try.prog 24 #[.slice (some ⟨g0, 0, none⟩) mem.length c0, .slice (some ⟨g1, 0, none⟩) mem.length c1, .int .i64 0] u fun e w' => e = .returned (.bool true) ∧ Below u.heap.size u w') := Lib.hid (fun u hu => by
          have h := Apart_same (memR l M mem 0) (some ⟨g0, 0, none⟩) (some ⟨g1, 0, none⟩) c0 c1 u (hb0.below hu) (hb1.below hu) (by rw [hlen, HMl.out]; omega)
          rw [hlen] at h
          exact h)
        rw [HMl.out] at k0 k1 HAp
        have HBr := Lib.hid (HB3.out.trans (hb.mono HB3.out.size))
        clear hov hrs hcs hv0 hv1 hb0 hb1 heq hlen hend hb
        go_wp2_with fail
        go_region_held3 (fun w' => w'.cell? ⟨gm, 0, none⟩ = some (.slice (some ⟨g0, 0, none⟩) 32768 c0) ∧ w'.cell? ⟨gm, 1, none⟩ = some (.slice (some ⟨g1, 0, none⟩) 32768 c1))
          (first | exact ⟨k0, k1⟩ | exact ⟨keep k0 (by assumption), keep k1 (by assumption)⟩)
          (first | (go_at_call 24; refine (HAp.out _ (by first | exact Below.refl _ _ | exact (Below.refl _ _).drew)).mono ?_; rintro e w9 ⟨rfl, hb9⟩; have hb9 := (by first | exact below_of_drew hb9 | exact hb9); have HB9 := Lib.hid hb9) | (go_at_call 11; refine (HK.out _).mono ?_; rintro e w10 ⟨rfl, hb10⟩; have hb10 := HB9.out.trans (hb10.mono HB9.out.size); have HB10 := Lib.hid hb10))
        go_wp2_with fail
        go_ret
        exact ⟨rfl, HBr.out.trans (HB10.out.mono HBr.out.size)⟩
  · have hz' := hz
    clear hin hlc ha0 him ho hws hww hwl hW h100 hl hol
    generalize appE l order = ae at *
    generalize appL l order = M at *
    generalize l.length = n at *
    generalize order.length = on at *
    generalize words.length = wn at *
    go_enter Try.func4, Try.ntmps4
    go_wp2_with fail
    refine HLo.out.mono ?_; rintro e w1 ⟨rfl, rfl⟩
    go_wp2_with fail
    refine H1.out.mono ?_; rintro e w2 ⟨⟨vM, rfl, hoM⟩, hb2⟩
    have HB2 := Lib.hid hb2
    obtain ⟨mA, mC, rfl⟩ := owns_shape hoM
    clear hb2 hoM H1
    go_wp2_with fail
    refine (HK.out _).mono ?_; rintro e w3 ⟨rfl, hb3⟩
    have HB3 := Lib.hid (HB2.out.trans (hb3.mono HB2.out.size))
    clear hb3
    go_wp2_with fail
    go_ret
    exact ⟨rfl, HB3.out⟩
theorem watchOK : WatchOK := fun regs ls bl cap mem ma mcap most w h1 h2 h3 h4 h5 h6 h7 h8 => Watch_ok regs ls bl cap mem ma mcap most w h1 h2 h3 h4 h5 h6 h7 h8
theorem timeSame_any (l : List Cd) (a : Option Addr) (cap : Nat) (order : List Int) (oa : Option Addr) (ocap : Nat) (words : List Int) (wa : Option Addr) (wcap : Nat) (w : World) (hin : CdsIn w a l) (hlc : l.length ≤ cap) (ha0 : a = none → cap = 0) (him : ∀ k, (atC l k).im < 4294967296) (ho : IntsIn w oa order) (hws : WsIn w wa words) (hww : ∀ k, k < words.length → isW (words.getD k 0)) (hwl : words.length ≤ maxLen) :
    Calls Try.prog 4 #[.slice a l.length cap, .slice oa order.length ocap, .slice wa words.length wcap] w fun e w' => e = .returned (.bool true) ∧ Below w.heap.size w w' :=
  timeSame_of watchOK l a cap order oa ocap words wa wcap w hin hlc ha0 him ho hws hww hwl
end Go.Proofs.Ytccpjfppkahbmaa
