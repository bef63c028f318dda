/- The walk of time.table: for each instruction those before it on which it depends. -/
import Derived.Test.YtccpjfppkahbmaaD2
import Derived.Test.YtccpjfppkahbmaaKR
import Derived.Deep.OwnRows
namespace Go.Proofs.Ytccpjfppkahbmaa
open Go.RowKit PK

/-- Those of the first m on which instruction k depends. -/
def tabN (l : List Cd) (k m : Nat) : List Int := ((List.range m).filter fun i => depB (atC l i) (atC l k)).map fun i : Nat => (i : Int)
theorem tabN_succ (l : List Cd) (k m : Nat) : tabN l k (m + 1) = if depB (atC l m) (atC l k) = true then tabN l k m ++ [(m : Int)] else tabN l k m := by
  unfold tabN
  rw [List.range_succ, List.filter_append, List.map_append]
  by_cases h : depB (atC l m) (atC l k) = true
  · simp [h]
  · simp [h]
theorem tabN_len (l : List Cd) (k : Nat) : ∀ m, (tabN l k m).length ≤ m
  | 0 => Nat.le_refl _
  | m + 1 => by
    have := tabN_len l k m
    rw [tabN_succ]
    split
    · rw [List.length_append, List.length_singleton]; omega
    · omega
def tabL (l : List Cd) : List (List Int) := (List.range l.length).map fun k => tabN l k k
theorem cell_six_in {w : World} {q : Nat} {x : Cd} (h : CdAt w q 0 x) : w.cell? ⟨q, 0, none⟩ = some (.int .i64 x.op) ∧ w.cell? ⟨q, 1, none⟩ = some (.int .i64 x.d) ∧ w.cell? ⟨q, 2, none⟩ = some (.int .i64 x.a) ∧ w.cell? ⟨q, 3, none⟩ = some (.int .i64 x.b) ∧ w.cell? ⟨q, 4, none⟩ = some (.int .u32 x.im) ∧ w.cell? ⟨q, 5, none⟩ = some (.int .i64 x.to) := by
  have h1 := h.c1; have h2 := h.c2; have h3 := h.c3; have h4 := h.c4; have h5 := h.c5
  rw [Nat.zero_add] at h1 h2 h3 h4 h5
  exact ⟨h.c0, h1, h2, h3, h4, h5⟩
theorem CdAt.save {w w' : World} {q b off : Nat} {x : Cd} (h : CdAt w b off x) (hs : Save q w w') (hb : b ≠ q) : CdAt w' b off x :=
  ⟨hs.cell hb h.c0, hs.cell hb h.c1, hs.cell hb h.c2, hs.cell hb h.c3, hs.cell hb h.c4, hs.cell hb h.c5⟩
theorem rowAt_block {w : World} {base n : Nat} {e : TypeId} {v : Value} {xs : List Value} (h : w.ownsRow base e 1 v n xs) : ∀ g, v.ownBlock = some g → base ≤ g ∧ g < w.heap.size := fun _ hg => owns_block h hg
theorem Save.grown {q : Nat} {a b c : World} {row : Option Nat} (h : Save q a b) (hg : b.grownBy c row) (hr : ∀ k, row = some k → a.heap.size ≤ k) : Save q a c :=
  ⟨hg.os.trans h.os, hg.tape.trans h.tape, hg.output.trans h.output, Nat.le_trans h.size hg.size, fun k hk hq => by
    have hkb : k < b.heap.size := Nat.lt_of_lt_of_le hk h.size
    rw [hg.block k hkb (fun e => by have := hr k e.symm; omega)]
    exact h.block k hk hq⟩
theorem owns_save {w w' : World} {q B s n : Nat} {e : TypeId} {v : Value} {xs : List Value} (h : w.ownsRow B e s v n xs) (hs : Save q w w') (hq : q < B) : w'.ownsRow B e s v n xs :=
  owns_of_block h fun g h1 h2 _ => hs.block g h2 (by omega)
/-- A made row that lies behind the block q. -/
def RowFr (w : World) (q : Nat) (v : Value) (xs : List Int) : Prop := ∃ a cap, v = .slice a xs.length cap ∧ IntsIn w a xs ∧ ∀ b off, a = some ⟨b, off, none⟩ → q < b
theorem RowFr.save {w w' : World} {q : Nat} {v : Value} {xs : List Int} (h : RowFr w q v xs) (hs : Save q w w') : RowFr w' q v xs := by
  obtain ⟨a, cap, rfl, hi, hne⟩ := h
  refine ⟨a, cap, rfl, fun k hk => ?_, hne⟩
  obtain ⟨b, off, rfl, hc⟩ := hi k hk
  exact ⟨b, off, rfl, hs.cell (by have := hne b off rfl; omega) hc⟩
theorem rowFr_owns {w : World} {base q : Nat} {e : TypeId} {v : Value} {xs : List Int} (h : w.ownsRow base e 1 v xs.length (PK.encI xs)) (hq : q < base) : RowFr w q v xs := by
  obtain ⟨a, cap, rfl, _, hi⟩ := ints_of_owns h
  refine ⟨a, cap, rfl, hi, fun b off e => ?_⟩
  subst e
  have := owns_shape h
  rcases h.2 with ⟨h1, _⟩ | ⟨g, cap', cur, h1, hb, _⟩
  · cases h1
  · simp only [Value.slice.injEq, Option.some.injEq, Addr.mk.injEq] at h1
    omega
/-- A row of n rows, all laid from the block q on. -/
def TabIn (w : World) (q n : Nat) (R : Nat → List Int) : Prop := ∀ k, k < n → ∃ a cap, w.cell? ⟨q, k, none⟩ = some (.slice a (R k).length cap) ∧ IntsIn w a (R k) ∧ ∀ b off, a = some ⟨b, off, none⟩ → q < b
theorem tabIn_made {w : World} {q n : Nat} {f : Nat → Value} {R : Nat → List Int} (h : VRow w q n f) (hr : ∀ j, j < n → RowFr w q (f j) (R j)) : TabIn w q n R := fun k hk => by
  obtain ⟨a, cap, e, hi, hb⟩ := hr k hk
  have hc := h.cell hk
  rw [e] at hc
  exact ⟨a, cap, hc, hi, hb⟩
theorem TabIn.rows {w : World} {q n : Nat} {R : Nat → List Int} (h : TabIn w q n R) : RowsSl w (.slice (some ⟨q, 0, none⟩) n n) ((List.range n).map R) := by
  have hl : ((List.range n).map R).length = n := by simp
  refine ⟨some ⟨q, 0, none⟩, n, by rw [hl], fun k hk => ?_⟩
  rw [hl] at hk
  have eg : ((List.range n).map R).getD k [] = R k := by simp [List.getD_eq_getElem?_getD, hk]
  rw [eg]
  obtain ⟨a, cap, hc, hi, _⟩ := h k hk
  exact ⟨q, 0, a, cap, rfl, by rw [Nat.zero_add]; exact hc, hi⟩
set_option maxRecDepth 100000 in
set_option maxHeartbeats 4000000 in
theorem table_own (l : List Cd) (a : Option Addr) (cap : Nat) (w : World) (hin : CdsIn w a l) (hlc : l.length ≤ cap) (hl : l.length ≤ 40) (hok : ∀ k, k < l.length → okC (atC l k) = true) :
    Calls Try.prog 66 #[.slice a l.length cap] w fun e w' => (∃ q, e = .returned (.slice (some ⟨q, 0, none⟩) l.length l.length) ∧ w.heap.size ≤ q ∧ q < w'.heap.size ∧ TabIn w' q l.length fun j => tabN l j j) ∧ Below w.heap.size w w' := by
  have HI := Lib.hid hin
  have HOk := Lib.hid hok
  have HLc := Lib.hid hlc
  clear hin hok hlc
  have hmk := run_make_row' (P := Try.prog) 76 25 (.slice none 0 0) 24 Try.underlying76 infoRowI rfl .i64 .i64 l.length (by omega) (by omega)
  go_enter Try.func66, Try.ntmps66
  go_wp2_with fail
  have hrow0 : VRow (w.alloc (.cells (madeCells #[.slice none 0 0] l.length) 25)) w.heap.size l.length (fun _ => .slice none 0 0) := by
    rw [valArr_made]; exact heap_at _ _ _ rfl
  have hbl0 : Below w.heap.size w (w.alloc (.cells (madeCells #[.slice none 0 0] l.length) 25)) := (Below.refl _ _).alloc (Nat.le_refl _) _
  generalize hw2 : w.alloc (.cells (madeCells #[.slice none 0 0] l.length) 25) = w2 at *
  generalize hq : w.heap.size = q at *
  have HR0 := Lib.hid hrow0; have HB2 := Lib.hid hbl0
  have hqw : w.heap.size ≤ q := by rw [hq]; exact Nat.le_refl _
  have HQw := Lib.hid hqw
  clear hw2 hrow0 hbl0 hmk hqw
  obtain ⟨i0, hi, ip0, ip1, ip2⟩ := info_parts Try.infoInt
  go_loopw [13] (fun i wr => ∃ k : Nat, k ≤ l.length ∧ i = .int .i64 k ∧ ∃ f, VRow wr q l.length f ∧ Save q w2 wr ∧ (∀ j, j < k → RowFr wr q (f j) (tabN l j j)) ∧ (∀ j, k ≤ j → f j = .slice none 0 0)) (fun i _ => l.length - (intOf i).toNat)
  case atStart => exact ⟨0, Nat.zero_le _, rfl, _, HR0.out, Save.refl _ _, fun j hj => absurd hj (Nat.not_lt_zero _), fun _ _ => rfl⟩
  case round =>
    obtain ⟨k, hk, rfl, f, hrow, hsv, hrows, hnil⟩ := hrel
    have hbw : Below w.heap.size w wr := (HB2.out.mono (Nat.le_of_eq hq)).trans (hsv.below (Nat.le_of_eq hq) HB2.out.size)
    by_cases hlt : k < l.length
    · have hki : (k : Int) < (l.length : Int) := by omega
      obtain ⟨bb, off, rfl, hc⟩ := HI.out k hlt
      have hbq : bb ≠ q := by have : bb < w.heap.size := block_lt_of_cell hc.c0; omega
      have hc := hc.keep hbw
      have HRow := Lib.hid hrow; have HSv := Lib.hid hsv; have HRows := Lib.hid hrows; have HNil := Lib.hid hnil; have HBw := Lib.hid hbw
      have hkc : k ≤ cap := Nat.le_trans hk HLc.out
      have HDep := Lib.hid (fun m (hm : m < k) (u : World) => depends_any (atC l m) (atC l k) (HOk.out m (by omega)) (HOk.out k hlt) u)
      have HTab := Lib.hid (fun m => tabN_succ l k m)
      have hqr : q < wr.heap.size := hrow.lt
      clear hrow hsv hrows hnil hbw
      generalize atC l k = y at *
      obtain ⟨y0, y1, y2, y3, y4, y5⟩ := y
      obtain ⟨c0, c1, c2, c3, c4, c5⟩ := hc
      simp only at c0 c1 c2 c3 c4 c5
      have HY := Lib.hid (cdAt_new wr ⟨y0, y1, y2, y3, y4, y5⟩ 42)
      have HY : Hid (CdAt (wr.alloc (.cells #[.int .i64 y0, .int .i64 y1, .int .i64 y2, .int .i64 y3, .int .u32 y4, .int .i64 y5] 42)) wr.heap.size 0 ⟨y0, y1, y2, y3, y4, y5⟩) := HY
      have HV1 := Lib.hid (HRow.out.alloc (.cells #[.int .i64 y0, .int .i64 y1, .int .i64 y2, .int .i64 y3, .int .u32 y4, .int .i64 y5] 42))
      have HS1 := Lib.hid (Save.of_below (q := q) ((Below.refl wr.heap.size wr).alloc (Nat.le_refl _) (.cells #[.int .i64 y0, .int .i64 y1, .int .i64 y2, .int .i64 y3, .int .u32 y4, .int .i64 y5] 42)))
      have HI1 := Lib.hid (HI.out.below (HBw.out.alloc HBw.out.size (.cells #[.int .i64 y0, .int .i64 y1, .int .i64 y2, .int .i64 y3, .int .u32 y4, .int .i64 y5] 42)))
      have hsz : (wr.alloc (.cells #[.int .i64 y0, .int .i64 y1, .int .i64 y2, .int .i64 y3, .int .u32 y4, .int .i64 y5] 42)).heap.size = wr.heap.size + 1 := by simp
      go_wp2_with fail
      generalize wr.alloc (.cells #[.int .i64 y0, .int .i64 y1, .int .i64 y2, .int .i64 y3, .int .u32 y4, .int .i64 y5] 42) = w3 at *
      generalize hqy : wr.heap.size = qy at *
      have HQy := Lib.hid hqy
      have HSz := Lib.hid hsz
      clear hqy hsz c0 c1 c2 c3 c4 c5
      go_loopw [22] (fun j ws => ∃ m : Nat, m ≤ k ∧ j = .int .i64 m ∧ ∃ val, VRow ws q l.length (upd f k val) ∧ Save q w3 ws ∧ ws.ownsRow (qy + 1) 3 1 val (tabN l k m).length (PK.encI (tabN l k m))) (fun j _ => k - (intOf j).toNat)
      case atStart => exact ⟨0, Nat.zero_le _, rfl, .slice none 0 0, by rw [upd_same (HNil.out k (Nat.le_refl _))]; exact HV1.out, Save.refl _ _, World.ownsRow_nil _ _ _ _⟩
      case round =>
        obtain ⟨m, hm, rfl, val, hrow2, hsv2, hown⟩ := hrel
        by_cases hmk : m < k
        · have hmi : (m : Int) < (k : Int) := by omega
          have hml : m < l.length := by omega
          obtain ⟨bb', off', e0, hcx⟩ := HI1.out m hml
          simp only [Option.some.injEq, Addr.mk.injEq, and_true] at e0
          obtain ⟨e1, e2⟩ := e0
          subst e1; subst e2
          have hcx := CdAt.save hcx hsv2 hbq
          have HDm := Lib.hid (HDep.out m hmk)
          have HT := Lib.hid (HTab.out m)
          have htl := tabN_len l k m
          generalize hT1 : tabN l k (m + 1) = t1 at *
          have HT1 := Lib.hid hT1; clear hT1
          generalize tabN l k m = t0 at *
          generalize atC l m = x at *
          generalize depB x ⟨y0, y1, y2, y3, y4, y5⟩ = b at *
          obtain ⟨x0, x1, x2, x3, x4, x5⟩ := x
          obtain ⟨c0, c1, c2, c3, c4, c5⟩ := hcx
          simp only at c0 c1 c2 c3 c4 c5
          have HDm : Hid (∀ u : World, Calls Try.prog 100 #[.agg #[.int .i64 x0, .int .i64 x1, .int .i64 x2, .int .i64 x3, .int .u32 x4, .int .i64 x5], .agg #[.int .i64 y0, .int .i64 y1, .int .i64 y2, .int .i64 y3, .int .u32 y4, .int .i64 y5]] u fun e w' => e = .returned (.bool b) ∧ Below u.heap.size u w') := HDm
          have HX := Lib.hid (cdAt_new wr ⟨x0, x1, x2, x3, x4, x5⟩ 42)
          have HX : Hid (CdAt (wr.alloc (.cells #[.int .i64 x0, .int .i64 x1, .int .i64 x2, .int .i64 x3, .int .u32 x4, .int .i64 x5] 42)) wr.heap.size 0 ⟨x0, x1, x2, x3, x4, x5⟩) := HX
          have HYs := Lib.hid ((CdAt.save HY.out hsv2 (by omega)).keep ((Below.refl wr.heap.size wr).alloc (Nat.le_refl _) (.cells #[.int .i64 x0, .int .i64 x1, .int .i64 x2, .int .i64 x3, .int .u32 x4, .int .i64 x5] 42)))
          have HV2 := Lib.hid (hrow2.alloc (.cells #[.int .i64 x0, .int .i64 x1, .int .i64 x2, .int .i64 x3, .int .u32 x4, .int .i64 x5] 42))
          have HS2 := Lib.hid (hsv2.trans (Save.of_below (q := q) ((Below.refl wr.heap.size wr).alloc (Nat.le_refl _) (.cells #[.int .i64 x0, .int .i64 x1, .int .i64 x2, .int .i64 x3, .int .u32 x4, .int .i64 x5] 42))))
          have HO2 := Lib.hid (hown.alloc (.cells #[.int .i64 x0, .int .i64 x1, .int .i64 x2, .int .i64 x3, .int .u32 x4, .int .i64 x5] 42))
          clear hrow2 hsv2 hown
          go_upto_region 8 with (fail)
          generalize wr.alloc (.cells #[.int .i64 x0, .int .i64 x1, .int .i64 x2, .int .i64 x3, .int .u32 x4, .int .i64 x5] 42) = w4 at *
          generalize wr.heap.size = qx at *
          obtain ⟨d0, d1, d2, d3, d4, d5⟩ := cell_six_in HX.out
          obtain ⟨f0, f1, f2, f3, f4, f5⟩ := cell_six_in HYs.out
          simp only at d0 d1 d2 d3 d4 d5 f0 f1 f2 f3 f4 f5
          clear c0 c1 c2 c3 c4 c5
          go_wp2_with fail
          refine (HDm.out _).mono ?_; rintro e w5 ⟨rfl, hb5⟩
          clear d0 d1 d2 d3 d4 d5 f0 f1 f2 f3 f4 f5 HX HYs
          have HV5 := Lib.hid (HV2.out.below hb5 HV2.out.lt)
          have HS5 := Lib.hid (HS2.out.trans (Save.of_below (q := q) hb5))
          have HO5 := Lib.hid (owns_below HO2.out hb5)
          clear hb5 HV2 HS2 HO2
          cases b
          · go_wp2_with fail
            go_roundw
            case rel => exact ⟨m + 1, by omega, by go_num, val, HV5.out, HS5.out, by have e := HT.out; rw [if_neg (by decide)] at e; rw [HT1.out, e]; exact HO5.out⟩
            case measure => simp [intOf]; omega
          · obtain ⟨va0, vc0, rfl⟩ := owns_shape HO5.out
            have hcq := HV5.out.cell hlt
            rw [upd_at] at hcq
            have HN6 := Lib.hid (cell_one_at w5 (.int .i64 (m : Int)) 3)
            have HO6 := Lib.hid (HO5.out.alloc (.cells #[.int .i64 (m : Int)] 3))
            have HV6 := Lib.hid (HV5.out.alloc (.cells #[.int .i64 (m : Int)] 3))
            have HS6 := Lib.hid (HS5.out.trans (Save.of_below (q := q) ((Below.refl w5.heap.size w5).alloc (Nat.le_refl _) (.cells #[.int .i64 (m : Int)] 3))))
            have HG5 := Lib.hid (fun g hg => owns_block HO5.out (g := g) hg)
            have HS63 : Hid (t0.length + 1 ≤ maxLen) := Lib.hid (by unfold maxLen; omega)
            have HSb : Hid ((t0.length + 1) * 8 ≤ 140737488355328) := Lib.hid (by omega)
            have HZ6 : Hid (qy + 1 ≤ (w5.alloc (.cells #[.int .i64 (m : Int)] 3)).heap.size) := Lib.hid (by rw [← HSz.out]; exact HS6.out.size)
            have HqB : Hid (q < qy + 1) := Lib.hid (by omega)
            have htl2 : t0.length ≤ 40 := by omega
            clear htl
            go_wp2_with (first | (at_builtin; refine wpList_append_own_at _ rfl _ _ 25 rfl (qy + 1) 3 i0 (.int .i64 0) 1 8 Try.underlying25 hi ip0 ip1 ip2 rfl (by decide) _ _ _ rfl HO6.out ⟨w5.heap.size, 0, none⟩ 1 1 [.int .i64 (m : Int)] rfl rfl HN6.out (one_int _) HS63.out HSb.out HZ6.out ?_; intro v9 w9 hown9 hgrow9 _ hat9; obtain ⟨va, vc, rfl⟩ := owns_shape hown9; have HV9 := Lib.hid (HV6.out.grown hgrow9 (fun g hg => by have := (HG5.out g hg).1; have := HqB.out; omega)); have HS9 := Lib.hid (Save.grown HS6.out hgrow9 (fun g hg => by have := (HG5.out g hg).1; rw [HSz.out]; exact this)); have HO9 := Lib.hid hown9; have hC9 := HV9.out.cell hlt; have hF9 := HV9.out.free k; clear hown9 hgrow9 hat9))
            go_roundw
            case rel =>
              refine ⟨m + 1, by omega, by go_num, .slice va (t0.length + 1) vc, ?_, HS9.out.trans (Save.set q k w9 _), ?_⟩
              · have := HV9.out.set k (.slice va (t0.length + 1) vc)
                rwa [upd_upd] at this
              · have e := HT.out
                rw [if_pos trivial] at e
                rw [HT1.out, e, List.length_append, encI_snoc]
                exact owns_save HO9.out (Save.set q k w9 _) HqB.out
            case measure => simp [intOf]; omega
        · obtain rfl : m = k := by omega
          go_wp2_with fail
          go_roundw
          case rel =>
            have hS := HSv.out.trans (HS1.out.trans hsv2)
            refine ⟨m + 1, by omega, by go_num, _, hrow2, hS, fun j hj => ?_, fun j hj => ?_⟩
            · by_cases e : j = m
              · subst e
                rw [upd_at]
                exact rowFr_owns hown (by omega)
              · rw [upd_ne e]
                exact (HRows.out j (by omega)).save (HS1.out.trans hsv2)
            · rw [upd_ne (by omega)]
              exact HNil.out j (by omega)
          case measure => simp [intOf]; omega
    · obtain rfl : k = l.length := by omega
      have HRes := Lib.hid (tabIn_made hrow hrows)
      have HLt := Lib.hid hrow.lt
      have HBw := Lib.hid hbw
      clear hrow hsv hrows hnil hbw
      go_wp2_with fail
      go_ret
      exact ⟨⟨_, rfl, HQw.out, HLt.out, HRes.out⟩, HBw.out⟩
theorem table_any (l : List Cd) (a : Option Addr) (cap : Nat) (w : World) (hin : CdsIn w a l) (hlc : l.length ≤ cap) (hl : l.length ≤ 40) (hok : ∀ k, k < l.length → okC (atC l k) = true) :
    Calls Try.prog 66 #[.slice a l.length cap] w fun e w' => (∃ v, e = .returned v ∧ RowsSl w' v (tabL l)) ∧ Below w.heap.size w w' :=
  (table_own l a cap w hin hlc hl hok).mono fun _ _ ⟨⟨_, he, _, _, ht⟩, hb⟩ => ⟨⟨_, he, ht.rows⟩, hb⟩
end Go.Proofs.Ytccpjfppkahbmaa
