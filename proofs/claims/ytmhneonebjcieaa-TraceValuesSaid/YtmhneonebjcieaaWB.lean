/- The walk of Decode of the program. -/
import Derived.Test.YtmhneonebjcieaaWA
namespace Go.Proofs.Ytmhneonebjcieaa
open Go.RowKit

theorem one_cells5 (a b c d e : Int) : ∀ u ∈ [Value.int .i64 a, .int .i64 b, .int .i64 c, .int .i64 d, .int .i64 e], u.oneCell' = true := by simp [Value.oneCell']
theorem cell_five_new (w : World) (a b c d e : Value) (t : TypeId) : ∀ j u, [a, b, c, d, e][j]? = some u → (w.alloc (.cells #[a, b, c, d, e] t)).cell? ((⟨w.heap.size, 0, none⟩ : Addr).add j) = some u := by
  intro j u hj
  rw [addr_zero]
  match j, hj with
  | 0, hj => simp at hj; subst hj; simp [go_sem]
  | 1, hj => simp at hj; subst hj; simp [go_sem]
  | 2, hj => simp at hj; subst hj; simp [go_sem]
  | 3, hj => simp at hj; subst hj; simp [go_sem]
  | 4, hj => simp at hj; subst hj; simp [go_sem]
theorem below_setCell (w : World) {B q k : Nat} (h : B ≤ q) (x : Value) : Below B w (w.setCell ⟨q, k, none⟩ x) := (Below.refl _ _).setCell h x
/-- The block of a place that is made field by field. -/
structure BoxAt (w : World) (q : Nat) (x0 x1 x2 x3 x4 : Int) : Prop where
  blk : w.heap[q]? = some (.cells #[.int .i64 x0, .int .i64 x1, .int .i64 x2, .int .i64 x3, .int .i64 x4] 38 (0, 0))
theorem BoxAt.c0 {w : World} {q : Nat} {x0 x1 x2 x3 x4 : Int} (h : BoxAt w q x0 x1 x2 x3 x4) : w.cell? ⟨q, 0, none⟩ = some (.int .i64 x0) := cell_of_row w q 0 _ _ _ h.blk
theorem BoxAt.c1 {w : World} {q : Nat} {x0 x1 x2 x3 x4 : Int} (h : BoxAt w q x0 x1 x2 x3 x4) : w.cell? ⟨q, 1, none⟩ = some (.int .i64 x1) := cell_of_row w q 1 _ _ _ h.blk
theorem BoxAt.c2 {w : World} {q : Nat} {x0 x1 x2 x3 x4 : Int} (h : BoxAt w q x0 x1 x2 x3 x4) : w.cell? ⟨q, 2, none⟩ = some (.int .i64 x2) := cell_of_row w q 2 _ _ _ h.blk
theorem BoxAt.c3 {w : World} {q : Nat} {x0 x1 x2 x3 x4 : Int} (h : BoxAt w q x0 x1 x2 x3 x4) : w.cell? ⟨q, 3, none⟩ = some (.int .i64 x3) := cell_of_row w q 3 _ _ _ h.blk
theorem BoxAt.c4 {w : World} {q : Nat} {x0 x1 x2 x3 x4 : Int} (h : BoxAt w q x0 x1 x2 x3 x4) : w.cell? ⟨q, 4, none⟩ = some (.int .i64 x4) := cell_of_row w q 4 _ _ _ h.blk
theorem BoxAt.free {w : World} {q : Nat} {x0 x1 x2 x3 x4 : Int} (h : BoxAt w q x0 x1 x2 x3 x4) (k : Nat) : w.frozen? ⟨q, k, none⟩ = false := frozen_of_row w q k _ _ h.blk
theorem BoxAt.set1 {w : World} {q : Nat} {x0 x1 x2 x3 x4 : Int} (h : BoxAt w q x0 x1 x2 x3 x4) (y : Int) : BoxAt (w.setCell ⟨q, 1, none⟩ (.int .i64 y)) q x0 y x2 x3 x4 := ⟨by rw [heap_setCell_same w q 1 _ _ _ h.blk]; rfl⟩
theorem BoxAt.set2 {w : World} {q : Nat} {x0 x1 x2 x3 x4 : Int} (h : BoxAt w q x0 x1 x2 x3 x4) (y : Int) : BoxAt (w.setCell ⟨q, 2, none⟩ (.int .i64 y)) q x0 x1 y x3 x4 := ⟨by rw [heap_setCell_same w q 2 _ _ _ h.blk]; rfl⟩
theorem BoxAt.set3 {w : World} {q : Nat} {x0 x1 x2 x3 x4 : Int} (h : BoxAt w q x0 x1 x2 x3 x4) (y : Int) : BoxAt (w.setCell ⟨q, 3, none⟩ (.int .i64 y)) q x0 x1 x2 y x4 := ⟨by rw [heap_setCell_same w q 3 _ _ _ h.blk]; rfl⟩
theorem BoxAt.set4 {w : World} {q : Nat} {x0 x1 x2 x3 x4 : Int} (h : BoxAt w q x0 x1 x2 x3 x4) (y : Int) : BoxAt (w.setCell ⟨q, 4, none⟩ (.int .i64 y)) q x0 x1 x2 x3 y := ⟨by rw [heap_setCell_same w q 4 _ _ _ h.blk]; rfl⟩
theorem BoxAt.save {p : Nat} {w w' : World} {q : Nat} {x0 x1 x2 x3 x4 : Int} (h : BoxAt w q x0 x1 x2 x3 x4) (hs : Save2 p w w') (hq : p + 2 ≤ q) : BoxAt w' q x0 x1 x2 x3 x4 := ⟨(hs.block q (by omega) (by omega)).trans h.blk⟩
theorem grown_below {B : Nat} {w w' : World} {row : Option Nat} (h : w.grownBy w' row) (hB : B ≤ w.heap.size) (hr : ∀ g, row = some g → B ≤ g) : Below B w w' := (Below.refl _ _).grown h hB hr
theorem drew_block (w : World) : Save2 0 w w.drew := ⟨rfl, rfl, rfl, rfl, fun _ _ _ => rfl⟩
/-- What stands as places are read: the own row out, and the box of the place under way. -/
theorem owns_save {p : Nat} {w w' : World} {e : TypeId} {s n : Nat} {v : Value} {xs : List Value} (h : w.ownsRow (p + 2) e s v n xs) (hs : Save2 p w w') : w'.ownsRow (p + 2) e s v n xs :=
  owns_of_block h fun g h1 _ _ => hs.block g (by omega) (by omega)
theorem owns_box {w : World} {base : Nat} {e : TypeId} {s n q k : Nat} {v : Value} {xs : List Value} (h : w.ownsRow base e s v n xs) (hq : v.ownBlock ≠ some q) (x : Value) : (w.setCell ⟨q, k, none⟩ x).ownsRow base e s v n xs :=
  owns_of_block h fun g _ _ hv => Below.heap_setCell _ _ _ _ (by show g ≠ q; intro e; rw [e] at hv; exact hq hv)

set_option maxRecDepth 100000 in
set_option maxHeartbeats 4000000 in
theorem decode_any (b : List Nat) (a : Option Addr) (cap : Nat) (w : World) (hin : BytesIn w a b) (hlc : b.length ≤ cap) (hl : b.length ≤ 4000) (hby : ∀ x ∈ b, x < 256) (hab : b ≠ [] → ∀ q off, a = some ⟨q, off, none⟩ → q < w.heap.size) :
    Calls Try.prog 17 #[.slice a b.length cap] w fun e w' => (∃ v c, e = .returned (.tuple #[v, .int .i64 c]) ∧ DecPost b w.heap.size v c w') ∧ Below w.heap.size w w' := by
  have hst0 : TakeSt w.heap.size ((w.alloc (.cells #[.slice a b.length cap] 25)).alloc (.cells #[.bool false] 4)) ⟨false, b⟩ := by
    have hb2 : Below w.heap.size w ((w.alloc (.cells #[.slice a b.length cap] 25)).alloc (.cells #[.bool false] 4)) := ((Below.refl _ _).alloc (Nat.le_refl _) _).alloc (by simp) _
    refine ⟨⟨a, cap, ?_, hlc, hin.below hb2, hab⟩, heap_at _ _ _ (by simp), hby, hl⟩
    rw [Below.heap_alloc _ _ _ (by simp)]
    exact heap_at _ _ _ rfl
  have hb0 : Below w.heap.size w ((w.alloc (.cells #[.slice a b.length cap] 25)).alloc (.cells #[.bool false] 4)) := ((Below.refl _ _).alloc (Nat.le_refl _) _).alloc (by simp) _
  have HB0 := Lib.hid hb0; have HT0 := Lib.hid hst0
  have HC0 := Lib.hid (take_any w.heap.size ⟨false, b⟩ _ hst0)
  clear hin hb0 hst0 hab hby
  have hsz0 : ((w.alloc (.cells #[.slice a b.length cap] 25)).alloc (.cells #[.bool false] 4)).heap.size = w.heap.size + 2 := by simp
  have HSz0 := Lib.hid hsz0; clear hsz0
  have HEarly : Hid ((takeS ⟨false, b⟩).wrong = true ∨ 64 < takeN ⟨false, b⟩ → ∀ w', DecPost b w.heap.size (.slice none 0 0) 2 w') := Lib.hid fun h w' => by
    unfold DecPost; rw [decR_early h]; exact ⟨rfl, rfl⟩
  have HLate := Lib.hid (fun h1 h2 => decR_late (b := b) h1 h2)
  have HNone : Hid (decR b = none → ∀ w', DecPost b w.heap.size (.slice none 0 0) 2 w') := Lib.hid fun h w' => by
    unfold DecPost; rw [h]; exact ⟨rfl, rfl⟩
  have HSome : Hid (∀ l, decR b = some l → ∀ v w', w'.ownsRow (w.heap.size + 2) 38 5 v l.length (encPl l) → DecPost b w.heap.size v 0 w') := Lib.hid fun l h v w' ho => by
    unfold DecPost; rw [h]; exact ⟨rfl, _, by omega, ho⟩
  generalize hn0 : takeN ⟨false, b⟩ = n0 at *
  generalize hs0 : takeS ⟨false, b⟩ = t0 at *
  have HN0 := Lib.hid hn0; clear hn0 hs0
  by_cases hearly : t0.wrong = true ∨ 64 < n0
  · have HD := Lib.hid (HEarly.out hearly)
    cases hw : t0.wrong
    · have hn : 64 < n0 := by rw [hw] at hearly; simpa using hearly
      have hni : (64 : Int) < (n0 : Int) := by omega
      clear hearly HLate HNone HSome HEarly
      go_enter Try.func17, Try.ntmps17
      go_wp2_with fail
      refine HC0.out.mono ?_; rintro e w1 ⟨rfl, ht1, hs1⟩
      have cf : w1.cell? ⟨w.heap.size + 1, 0, none⟩ = some (.bool false) := by rw [← hw]; exact cell_of_row w1 (w.heap.size + 1) 0 _ _ _ ht1.flag
      have HS1 := Lib.hid hs1
      clear ht1 hs1 hw
      go_wp2_with fail
      go_ret2
      exact ⟨⟨_, _, rfl, HD.out _⟩, HB0.out.trans (HS1.out.below (Nat.le_refl _))⟩
    · clear hearly HLate HNone HSome HEarly
      go_enter Try.func17, Try.ntmps17
      go_wp2_with fail
      refine HC0.out.mono ?_; rintro e w1 ⟨rfl, ht1, hs1⟩
      have cf : w1.cell? ⟨w.heap.size + 1, 0, none⟩ = some (.bool true) := by rw [← hw]; exact cell_of_row w1 (w.heap.size + 1) 0 _ _ _ ht1.flag
      have HS1 := Lib.hid hs1
      clear ht1 hs1 hw
      go_wp2_with fail
      go_ret2
      exact ⟨⟨_, _, rfl, HD.out _⟩, HB0.out.trans (HS1.out.below (Nat.le_refl _))⟩
  have hw0 : t0.wrong = false := by
    cases h : t0.wrong
    · rfl
    · exact absurd (.inl h) hearly
  have hn64 : ¬ 64 < n0 := fun h => hearly (.inr h)
  have HL := Lib.hid (HLate.out hw0 hn64)
  have hni : ¬ (64 : Int) < (n0 : Int) := by omega
  have HW0 := Lib.hid hw0
  clear hearly hw0 HEarly HLate
  obtain ⟨i0, hi, ip0, ip1, ip2⟩ := info_parts Try.infoPlace
  go_enter Try.func17, Try.ntmps17
  go_wp2_with fail
  refine HC0.out.mono ?_; rintro e w1 ⟨rfl, ht1, hs1⟩
  have cf : w1.cell? ⟨w.heap.size + 1, 0, none⟩ = some (.bool false) := by rw [← HW0.out]; exact cell_of_row w1 (w.heap.size + 1) 0 _ _ _ ht1.flag
  have HT1 := Lib.hid ht1; have HB1 := Lib.hid (HB0.out.trans (hs1.below (Nat.le_refl _)))
  have hz1w : w.heap.size + 2 ≤ w1.heap.size := by rw [hs1.size, HSz0.out]; exact Nat.le_refl _
  clear ht1 hs1 HC0 HT0
  go_wp2_with fail
  generalize hP : w.heap.size = P0 at *
  have HP := Lib.hid hP; clear hP
  clear cf
  go_loopw [8, 9, 21] (fun out f i wr => ∃ k : Nat, k ≤ n0 ∧ i = .int .i64 k ∧ f = .int .i64 (rdK t0 k).2.1 ∧ TakeSt P0 wr (rdK t0 k).2.2 ∧ wr.ownsRow (P0 + 2) 38 5 out (rdK t0 k).1.length (encPl (rdK t0 k).1) ∧ Below P0 w wr ∧ P0 + 2 ≤ wr.heap.size) (fun _ _ i _ => n0 - (intOf i).toNat)
  case atStart => exact ⟨0, Nat.zero_le _, rfl, rfl, HT1.out, ⟨rfl, .inl ⟨rfl, rfl⟩⟩, HB1.out, hz1w⟩
  case round =>
    obtain ⟨k, hk, rfl, rfl, ht, ho, hb, hz⟩ := hrel
    have HT := Lib.hid ht; have HO := Lib.hid ho; have HB := Lib.hid hb
    have hlen := rdK_len t0 k
    by_cases hlt : k < n0
    · have hki : (k : Int) < (n0 : Int) := by omega
      have hfr := rdK_from t0 k
      have hn1 := rdK_len t0 (k + 1)
      have HR1 : Hid ((rdK t0 (k + 1)).1 = (rdK t0 k).1 ++ [(readP (rdK t0 k).2.1 (rdK t0 k).2.2).1]) := Lib.hid rfl
      have HR2 : Hid ((rdK t0 (k + 1)).2.1 = (readP (rdK t0 k).2.1 (rdK t0 k).2.2).1.fr) := Lib.hid rfl
      have HR3 : Hid ((rdK t0 (k + 1)).2.2 = (readP (rdK t0 k).2.1 (rdK t0 k).2.2).2) := Lib.hid rfl
      generalize (rdK t0 k).2.1 = fk at *
      generalize (rdK t0 k).2.2 = s0 at *
      generalize (rdK t0 k).1 = L at *
      have ha := takeN_lt s0
      have hb' := takeN_lt (takeS s0)
      have hw1 : IntKind.i64.wrap (fk + (takeN s0 : Int)) = fk + (takeN s0 : Int) := IntWalk.i64_in _ (by omega)
      have hw2 : IntKind.i64.wrap (fk + (takeN s0 : Int) + (takeN (takeS s0) : Int)) = fk + (takeN s0 : Int) + (takeN (takeS s0) : Int) := IntWalk.i64_in _ (by omega)
      have HW1 := Lib.hid hw1; have HW2 := Lib.hid hw2
      have HRp : Hid (readP fk s0 = (⟨fk + takeN s0, fk + takeN s0 + takeN (takeS s0), takeN (takeS (takeS s0)), takeN (takeS (takeS (takeS s0))), takeN (takeS (takeS (takeS (takeS s0))))⟩, takeS (takeS (takeS (takeS (takeS s0)))))) := Lib.hid rfl
      have HLen := Lib.hid hlen
      have hL63 : L.length + 1 ≤ maxLen := by unfold maxLen; omega
      have hLb : (L.length + 1) * 40 ≤ 140737488355328 := by omega
      have HL63 := Lib.hid hL63; have HLb := Lib.hid hLb
      clear ht ho hb ha hb' hfr hw1 hw2 hlen hn1 hL63 hLb HL HNone HSome HN0 HW0
      have hw1 := HW1.out
      go_wp2_with fail
      refine (take_any P0 _ _ HT.out).mono ?_; rintro e y1 ⟨rfl, ht1, hs1⟩
      have HT1 := Lib.hid ht1; have HO1 := Lib.hid (owns_save HO.out hs1); have HB1 := Lib.hid (HB.out.trans (hs1.below (Nat.le_refl _)))
      have hz1 : P0 + 2 ≤ y1.heap.size := by rw [hs1.size]; exact hz
      clear ht1 hs1 HT HO HB
      obtain ⟨f1, hf1⟩ : ∃ f1 : Int, fk + (takeN s0 : Int) = f1 := ⟨_, rfl⟩
      rw [hf1] at hw1 HW2 HRp
      have hw2 := HW2.out
      have hbx : BoxAt (y1.alloc (.cells #[.int .i64 f1, .int .i64 0, .int .i64 0, .int .i64 0, .int .i64 0] 38)) y1.heap.size f1 0 0 0 0 := ⟨heap_at _ _ _ rfl⟩
      have HX1 := Lib.hid hbx
      have hby : Below (P0 + 2) y1 (y1.alloc (.cells #[.int .i64 f1, .int .i64 0, .int .i64 0, .int .i64 0, .int .i64 0] 38)) := (Below.refl _ _).alloc hz1 _
      have HTa := Lib.hid (HT1.out.below hby)
      have HBa := Lib.hid (HB1.out.alloc (by omega) (.cells #[.int .i64 f1, .int .i64 0, .int .i64 0, .int .i64 0, .int .i64 0] 38))
      have HOa := Lib.hid (HO1.out.alloc (.cells #[.int .i64 f1, .int .i64 0, .int .i64 0, .int .i64 0, .int .i64 0] 38))
      have HQ := Lib.hid (own_ne HO1.out)
      have hza : P0 + 2 ≤ (y1.alloc (.cells #[.int .i64 f1, .int .i64 0, .int .i64 0, .int .i64 0, .int .i64 0] 38)).heap.size := by simp; omega
      clear hbx hby HT1 HB1 HO1
      have hq : P0 + 2 ≤ y1.heap.size := hz1
      go_wp2_with fail
      generalize y1.alloc (.cells #[.int .i64 f1, .int .i64 0, .int .i64 0, .int .i64 0, .int .i64 0] 38) = z0 at *
      generalize y1.heap.size = q at *
      have e0 := HX1.out.c0
      have e1 := HX1.out.c1
      have ef := HX1.out.free 1
      refine wp_region_held_drew (S := (fun w' => w'.cell? ⟨q, 0, none⟩ = some (.int .i64 f1))) (by kernel_rfl) e0 (fun hHeld => ?_)
      refine wpAnyH_take (i := 0) (v := ?v0) (by simp only [List.getElem?_toArray, List.getElem?_cons_zero]; rfl) (by kernel_rfl) (by kernel_rfl) (by kernel_rfl) (by exact fun _ _ _ h => h) (Or.inl ⟨by rfl, ?hy0⟩) (by assumption) ?_
      case hy0 => intro w hSw; (try dsimp only at hSw); go_simp; try with_reducible rfl
      try simp only [Act.put, List.setIfInBounds_toArray, List.set_cons_zero, List.set_cons_succ]
      refine wpAnyH_take (i := 1) (v := ?v1) (by simp only [List.getElem?_toArray, List.getElem?_cons_zero, List.getElem?_cons_succ]; rfl) (by kernel_rfl) (by kernel_rfl) (by kernel_rfl) (by exact fun _ _ _ h => h) (Or.inl ⟨by rfl, ?hy1⟩) (by assumption) ?_
      case hy1 => intro w hSw; (try dsimp only at hSw); go_simp; try with_reducible rfl
      try simp only [Act.put, List.setIfInBounds_toArray, List.set_cons_zero, List.set_cons_succ]
      refine wpAnyH_take (i := 2) (v := ?v2) (by simp only [List.getElem?_toArray, List.getElem?_cons_zero, List.getElem?_cons_succ]; rfl) (by kernel_rfl) (by kernel_rfl) (by kernel_rfl) (by exact fun _ _ _ h => h) (Or.inl ⟨by rfl, ?hy2⟩) (by assumption) ?_
      case hy2 => intro w hSw; (try dsimp only at hSw); go_simp; try with_reducible rfl
      try simp only [Act.put, List.setIfInBounds_toArray, List.set_cons_zero, List.set_cons_succ]
      refine wpAnyH_ready (rs := [3]) (by kernel_rfl) (by simp) ?_
      refine AllReadyH.cons (by simp only [List.getElem?_toArray, List.getElem?_cons_zero, List.getElem?_cons_succ]; rfl) (fun K hK => ?_) AllReadyH.nil
      go_simp
      go_at_call 40; refine (take_any P0 _ _ (HTa.out.below (Below.refl _ _).drew)).mono ?_; rintro e y2 ⟨rfl, ht2, hs2⟩
      have hx2 : BoxAt y2 q f1 0 0 0 0 := BoxAt.save (w := z0.drew) ⟨HX1.out.blk⟩ hs2 hq
      have hHe := hx2.c0
      have e1 := hx2.c1
      have ef := hx2.free 1
      have HX2 := Lib.hid hx2; have HT2 := Lib.hid ht2; have HO2 := Lib.hid (owns_save (w := z0.drew) (owns_of_block HOa.out fun _ _ _ _ => rfl) hs2); have HB2 := Lib.hid ((HBa.out.drew).trans (hs2.below (Nat.le_refl _)))
      have hz2q : P0 + 2 ≤ y2.heap.size := by rw [hs2.size]; exact hza
      clear hx2 ht2 hs2
      refine hK.out _ _ hHe (fun hHeld2 => ?_)
      clear hK K
      try simp only [Act.put, List.setIfInBounds_toArray, List.set_cons_zero, List.set_cons_succ]
      refine wpAnyH_take (i := 4) (v := ?v4) (by simp only [List.getElem?_toArray, List.getElem?_cons_zero, List.getElem?_cons_succ]; rfl) (by kernel_rfl) (by kernel_rfl) (by kernel_rfl) (by exact fun _ _ _ h => h) (Or.inl ⟨by rfl, ?hy4⟩) (by assumption) ?_
      case hy4 => intro w hSw; (try dsimp only at hSw); go_simp; try with_reducible rfl
      try simp only [Act.put, List.setIfInBounds_toArray, List.set_cons_zero, List.set_cons_succ]
      refine wpAnyH_ready (rs := [5]) (by kernel_rfl) (by simp) ?_
      refine AllReadyH.cons (by simp only [List.getElem?_toArray, List.getElem?_cons_zero, List.getElem?_cons_succ]; rfl) (fun K hK => ?_) AllReadyH.nil
      go_simp
      refine hK.out _ _ hHe (fun hHeld5 => ?_)
      clear hK K
      try simp only [Act.put, List.setIfInBounds_toArray, List.set_cons_zero, List.set_cons_succ]
      refine wpAnyH_ready (rs := [6]) (by kernel_rfl) (by simp) ?_
      refine AllReadyH.cons (by simp only [List.getElem?_toArray, List.getElem?_cons_zero, List.getElem?_cons_succ]; rfl) (fun K hK => ?_) AllReadyH.nil
      go_simp
      refine hK.out _ _ (HX2.out.set1 _).c0 (fun hHeld3 => ?_)
      clear hK K
      try simp only [Act.put, List.setIfInBounds_toArray, List.set_cons_zero, List.set_cons_succ]
      refine wpAnyH_done (by kernel_rfl) ?_ _
      obtain ⟨f2, hf2⟩ : ∃ f2 : Int, f1 + (takeN (takeS s0) : Int) = f2 := ⟨_, rfl⟩
      rw [hf2] at HRp
      go_wp2_with fail
      refine (take_any P0 _ _ (HT2.out.below (below_setCell _ hq _))).mono ?_; rintro e y3 ⟨rfl, ht3, hs3⟩
      have HX3 := Lib.hid ((HX2.out.set1 _).save hs3 hq)
      have HO3 := Lib.hid (owns_save (owns_box HO2.out HQ.out _) hs3)
      have HB3 := Lib.hid ((HB2.out.trans (below_setCell _ (by omega) _)).trans (hs3.below (Nat.le_refl _)))
      have HT3 := Lib.hid ht3
      have hz3q : P0 + 2 ≤ y3.heap.size := by rw [hs3.size]; simpa [World.setCell] using hz2q
      clear ht3 hs3 HX2 HO2 HB2 HT2
      have g3 := HX3.out.c2
      have h3 := HX3.out.free 2
      go_wp2_with fail
      refine (take_any P0 _ _ (HT3.out.below (below_setCell _ hq _))).mono ?_; rintro e y4 ⟨rfl, ht4, hs4⟩
      have HX4 := Lib.hid ((HX3.out.set2 _).save hs4 hq)
      have HO4 := Lib.hid (owns_save (owns_box HO3.out HQ.out _) hs4)
      have HB4 := Lib.hid ((HB3.out.trans (below_setCell _ (by omega) _)).trans (hs4.below (Nat.le_refl _)))
      have HT4 := Lib.hid ht4
      have hz4q : P0 + 2 ≤ y4.heap.size := by rw [hs4.size]; simpa [World.setCell] using hz3q
      clear ht4 hs4 HX3 HO3 HB3 HT3
      have g4 := HX4.out.c3
      have h4 := HX4.out.free 3
      go_wp2_with fail
      refine (take_any P0 _ _ (HT4.out.below (below_setCell _ hq _))).mono ?_; rintro e y5 ⟨rfl, ht5, hs5⟩
      have HX5 := Lib.hid ((HX4.out.set3 _).save hs5 hq)
      have HO5 := Lib.hid (owns_save (owns_box HO4.out HQ.out _) hs5)
      have HB5 := Lib.hid ((HB4.out.trans (below_setCell _ (by omega) _)).trans (hs5.below (Nat.le_refl _)))
      have HT5 := Lib.hid ht5
      have hz5q : P0 + 2 ≤ y5.heap.size := by rw [hs5.size]; simpa [World.setCell] using hz4q
      clear ht5 hs5 HX4 HO4 HB4 HT4
      have g5 := HX5.out.c4
      have h5 := HX5.out.free 4
      have HXf := Lib.hid (HX5.out.set4 (takeN (takeS (takeS (takeS (takeS s0)))) : Int))
      have k0 := HXf.out.c0
      have k1 := HXf.out.c1
      have k2 := HXf.out.c2
      have k3 := HXf.out.c3
      have k4 := HXf.out.c4
      have hzf : P0 + 2 ≤ (y5.setCell ⟨q, 4, none⟩ (.int .i64 (takeN (takeS (takeS (takeS (takeS s0)))) : Int))).heap.size := by simpa [World.setCell] using hz5q
      have HOf := Lib.hid (owns_box (k := 4) HO5.out HQ.out (.int .i64 (takeN (takeS (takeS (takeS (takeS s0)))) : Int)))
      have HBf := Lib.hid (HB5.out.trans (below_setCell y5 (B := P0) (q := q) (k := 4) (by omega) (.int .i64 (takeN (takeS (takeS (takeS (takeS s0)))) : Int))))
      have HTf := Lib.hid (HT5.out.below (below_setCell y5 (k := 4) hq (.int .i64 (takeN (takeS (takeS (takeS (takeS s0)))) : Int))))
      have HNew : Hid (∀ j u, ([.int .i64 f1, .int .i64 f2, .int .i64 (takeN (takeS (takeS s0)) : Int), .int .i64 (takeN (takeS (takeS (takeS s0))) : Int), .int .i64 (takeN (takeS (takeS (takeS (takeS s0)))) : Int)] : List Value)[j]? = some u → ((y5.setCell ⟨q, 4, none⟩ (.int .i64 (takeN (takeS (takeS (takeS (takeS s0)))) : Int))).alloc (.cells #[.int .i64 f1, .int .i64 f2, .int .i64 (takeN (takeS (takeS s0)) : Int), .int .i64 (takeN (takeS (takeS (takeS s0))) : Int), .int .i64 (takeN (takeS (takeS (takeS (takeS s0)))) : Int)] 38)).cell? ((⟨y5.heap.size, 0, none⟩ : Addr).add j) = some u) := Lib.hid fun j u h => by have := cell_five_new (y5.setCell ⟨q, 4, none⟩ (.int .i64 (takeN (takeS (takeS (takeS (takeS s0)))) : Int))) _ _ _ _ _ 38 j u h; rwa [show (y5.setCell ⟨q, 4, none⟩ (.int .i64 (takeN (takeS (takeS (takeS (takeS s0)))) : Int))).heap.size = y5.heap.size by simp [World.setCell]] at this
      go_wp2_with (at_builtin; refine wpList_append_own_at _ rfl _ _ 22 rfl (P0 + 2) 38 i0 (.agg #[.int .i64 0, .int .i64 0, .int .i64 0, .int .i64 0, .int .i64 0]) 5 40 Try.underlying22 hi ip0 ip1 ip2 rfl (by decide) _ _ _ rfl (HOf.out.alloc _) ⟨y5.heap.size, 0, none⟩ 1 1 [.int .i64 f1, .int .i64 f2, .int .i64 (takeN (takeS (takeS s0)) : Int), .int .i64 (takeN (takeS (takeS (takeS s0))) : Int), .int .i64 (takeN (takeS (takeS (takeS (takeS s0)))) : Int)] rfl rfl HNew.out (one_cells5 _ _ _ _ _) HL63.out HLb.out (Nat.le_trans hzf (by simp)) ?_; intro v9 w9 hown9 hgrow9 _ hat9; have HG9 := Lib.hid hgrow9; have HO9 := Lib.hid hown9; clear hown9 hgrow9 hat9)
      go_roundw
      case rel => exact ⟨k + 1, by omega, by go_num, by rw [HR2.out, HRp.out], by rw [HR3.out, HRp.out]; exact (HTf.out.below ((Below.refl _ _).alloc hzf _)).below (grown_below HG9.out (Nat.le_trans hzf (by simp)) fun g hg => (owns_block HOf.out hg).1), by rw [HR1.out, HRp.out, List.length_append, encPl_snoc]; exact HO9.out, (HBf.out.alloc (Nat.le_trans (by omega) hzf) _).grown HG9.out (Nat.le_trans (Nat.le_trans (by omega) hzf) (by simp)) (fun g hg => Nat.le_trans (by omega) (owns_block HOf.out hg).1), Nat.le_trans (Nat.le_trans hzf (by simp)) HG9.out.size⟩
      case measure => simp [intOf]; omega
    · obtain rfl : k = n0 := by omega
      have hki : ¬ (k : Int) < (k : Int) := by omega
      have hwl := HL.out
      obtain ⟨ra, rc, hrb, hrl, _, _⟩ := ht.box
      have cr : wr.cell? ⟨P0, 0, none⟩ = some (.slice ra (rdK t0 k).2.2.rest.length rc) := cell_of_row wr P0 0 _ _ _ hrb
      have cw : wr.cell? ⟨P0 + 1, 0, none⟩ = some (.bool (rdK t0 k).2.2.wrong) := cell_of_row wr (P0 + 1) 0 _ _ _ ht.flag
      obtain ⟨oa, oc, hoe, holc, hoin⟩ := plSl_of_owns ho
      have hll : (rdK t0 k).1.length ≤ 1000 := by omega
      have HV := Lib.hid (valid_any (rdK t0 k).1 oa oc wr hoin holc hll)
      have HOi := Lib.hid ho
      subst hoe
      clear ht ho hb hrb hrl hoin HT HO hlen
      generalize (rdK t0 k).2.2.wrong = W at *
      generalize (rdK t0 k).2.2.rest = R at *
      cases W
      rotate_left
      · have HD := Lib.hid (HNone.out (by rw [hwl]; rfl))
        clear hwl
        go_wp2_with fail
        go_ret2
        rw [HP.out]
        exact ⟨⟨_, _, rfl, HD.out _⟩, HB.out⟩
      by_cases hR : R = []
      rotate_left
      · have hRl : 0 < R.length := List.length_pos_iff.2 hR
        have hRi : (0 : Int) < (R.length : Int) := by omega
        have HD := Lib.hid (HNone.out (by rw [hwl]; cases R with | nil => exact absurd rfl hR | cons x l => rfl))
        clear hwl hR
        go_wp2_with fail
        go_ret2
        rw [HP.out]
        exact ⟨⟨_, _, rfl, HD.out _⟩, HB.out⟩
      subst hR
      have hRi : ¬ (0 : Int) < (([] : List Nat).length : Int) := by simp
      by_cases hE : valE (rdK t0 k).1 = 0
      · have HD := Lib.hid (HSome.out _ (by rw [hwl, hE]; rfl))
        rw [hE] at HV
        clear hwl hE
        go_wp2_with fail
        refine HV.out.mono ?_; rintro e w8 ⟨rfl, hb8⟩
        have HB8 := Lib.hid (HB.out.trans (hb8.mono (by omega)))
        have HO8 := Lib.hid (owns_below HOi.out hb8)
        clear hb8
        go_wp2_with fail
        go_ret2
        rw [HP.out]
        exact ⟨⟨_, _, rfl, HD.out _ _ HO8.out⟩, HB8.out⟩
      · have HD := Lib.hid (HNone.out (by rw [hwl, decide_eq_true hE]; rfl))
        have hne : (valE (rdK t0 k).1 != 0) = true := bne_iff_ne.2 hE
        generalize valE (rdK t0 k).1 = E at *
        clear hwl
        go_wp2_with fail
        refine HV.out.mono ?_; rintro e w8 ⟨rfl, hb8⟩
        have HB8 := Lib.hid (HB.out.trans (hb8.mono (by omega)))
        clear hb8
        go_wp2_with fail
        go_ret2
        rw [HP.out]
        exact ⟨⟨_, _, rfl, HD.out _⟩, HB8.out⟩
end Go.Proofs.Ytmhneonebjcieaa
