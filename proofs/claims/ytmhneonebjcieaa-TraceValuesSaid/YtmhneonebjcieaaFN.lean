/- The walks of find of program and document, and of Find. -/
import Derived.Test.YtmhneonebjcieaaFK
namespace Go.Proofs.Ytmhneonebjcieaa
open Go.RowKit

theorem find_miss {l : List Pl} {v a : Int} (h : ∀ j, j < l.length → covers v a (at' l j) = false) : findP l v a = none := by
  unfold findP
  rw [List.find?_eq_none]
  intro x hx
  obtain ⟨k, hk, rfl⟩ := List.mem_iff_getElem.1 hx
  have := h k hk
  unfold at' at this
  rw [List.getD_eq_getElem?_getD, List.getElem?_eq_getElem hk] at this
  simpa using this
theorem find_hit {l : List Pl} {v a : Int} {k : Nat} (hk : k < l.length) (h : covers v a (at' l k) = true) (hn : ∀ j, j < k → covers v a (at' l j) = false) : findP l v a = some (at' l k) := by
  unfold findP
  rw [List.find?_eq_some_iff_getElem]
  refine ⟨h, k, hk, ?_, fun j hj => ?_⟩
  · unfold at'
    rw [List.getD_eq_getElem?_getD, List.getElem?_eq_getElem hk]; rfl
  · have := hn j hj
    unfold at' at this
    rw [List.getD_eq_getElem?_getD, List.getElem?_eq_getElem (by omega)] at this
    simpa using this
theorem found_none {l : List Pl} {v a : Int} (h : findP l v a = none) : foundP l v a = noPl ∧ isFound l v a = false := by unfold foundP isFound; rw [h]; exact ⟨rfl, rfl⟩
theorem found_some {l : List Pl} {v a : Int} {x : Pl} (h : findP l v a = some x) : foundP l v a = x ∧ isFound l v a = true := by unfold foundP isFound; rw [h]; exact ⟨rfl, rfl⟩
theorem idx_found {l : List Pl} {v a r : Int} (h : IdxP l (covers v a) r) : (r = -1 ∧ foundP l v a = noPl ∧ isFound l v a = false) ∨ (∃ k : Nat, k < l.length ∧ r = (k : Int) ∧ foundP l v a = at' l k ∧ isFound l v a = true) := by
  rcases h with ⟨rfl, h⟩ | ⟨k, hk, rfl, h, hn⟩
  · exact .inl ⟨rfl, found_none (find_miss h)⟩
  · exact .inr ⟨k, hk, rfl, found_some (find_hit hk h hn)⟩
theorem BoxAt.set0 {w : World} {q : Nat} {x0 x1 x2 x3 x4 : Int} (h : BoxAt w q x0 x1 x2 x3 x4) (y : Int) : BoxAt (w.setCell ⟨q, 0, none⟩ (.int .i64 y)) q y x1 x2 x3 x4 := ⟨by rw [heap_setCell_same w q 0 _ _ _ h.blk]; rfl⟩
/-- A place is stored in a box: what is read behind each store. -/
structure Five (w : World) (q : Nat) (p : Pl) : Prop where
  e0 : w.cell? ⟨q, 0, none⟩ = some (.int .i64 0)
  e1 : w.cell? ⟨q, 1, none⟩ = some (.int .i64 0)
  e2 : w.cell? ⟨q, 2, none⟩ = some (.int .i64 0)
  e3 : w.cell? ⟨q, 3, none⟩ = some (.int .i64 0)
  e4 : w.cell? ⟨q, 4, none⟩ = some (.int .i64 0)
  f0 : w.frozen? ⟨q, 0, none⟩ = false
  f1 : w.frozen? ⟨q, 1, none⟩ = false
  f2 : w.frozen? ⟨q, 2, none⟩ = false
  f3 : w.frozen? ⟨q, 3, none⟩ = false
  f4 : w.frozen? ⟨q, 4, none⟩ = false
  h0 : (w.setCell ⟨q, 0, none⟩ (.int .i64 p.fr)).cell? ⟨q, 0, none⟩ = some (.int .i64 p.fr)
  h1 : ((w.setCell ⟨q, 0, none⟩ (.int .i64 p.fr)).setCell ⟨q, 1, none⟩ (.int .i64 p.to)).cell? ⟨q, 1, none⟩ = some (.int .i64 p.to)
  h2 : (((w.setCell ⟨q, 0, none⟩ (.int .i64 p.fr)).setCell ⟨q, 1, none⟩ (.int .i64 p.to)).setCell ⟨q, 2, none⟩ (.int .i64 p.va)).cell? ⟨q, 2, none⟩ = some (.int .i64 p.va)
  h3 : ((((w.setCell ⟨q, 0, none⟩ (.int .i64 p.fr)).setCell ⟨q, 1, none⟩ (.int .i64 p.to)).setCell ⟨q, 2, none⟩ (.int .i64 p.va)).setCell ⟨q, 3, none⟩ (.int .i64 p.ki)).cell? ⟨q, 3, none⟩ = some (.int .i64 p.ki)
  h4 : (((((w.setCell ⟨q, 0, none⟩ (.int .i64 p.fr)).setCell ⟨q, 1, none⟩ (.int .i64 p.to)).setCell ⟨q, 2, none⟩ (.int .i64 p.va)).setCell ⟨q, 3, none⟩ (.int .i64 p.ki)).setCell ⟨q, 4, none⟩ (.int .i64 p.nn)).cell? ⟨q, 4, none⟩ = some (.int .i64 p.nn)
theorem BoxAt.five {w : World} {q : Nat} (h : BoxAt w q 0 0 0 0 0) (p : Pl) : Five w q p :=
  ⟨h.c0, h.c1, h.c2, h.c3, h.c4, h.free 0, h.free 1, h.free 2, h.free 3, h.free 4, (h.set0 _).c0, ((h.set0 _).set1 _).c1, (((h.set0 _).set1 _).set2 _).c2, ((((h.set0 _).set1 _).set2 _).set3 _).c3, (((((h.set0 _).set1 _).set2 _).set3 _).set4 _).c4⟩
theorem below_five {B q : Nat} {w w' : World} (h : Below B w w') (hq : B ≤ q) (x0 x1 x2 x3 x4 : Value) : Below B w (((((w'.setCell ⟨q, 0, none⟩ x0).setCell ⟨q, 1, none⟩ x1).setCell ⟨q, 2, none⟩ x2).setCell ⟨q, 3, none⟩ x3).setCell ⟨q, 4, none⟩ x4) :=
  ((((h.trans (below_setCell _ hq x0)).trans (below_setCell _ hq x1)).trans (below_setCell _ hq x2)).trans (below_setCell _ hq x3)).trans (below_setCell _ hq x4)
set_option maxRecDepth 100000 in
set_option maxHeartbeats 1000000 in
theorem find_any (l : List Pl) (a : Option Addr) (cap : Nat) (v ad : Int) (w : World) (hin : PlsIn w a l) (hl : l.length ≤ 1000) (hg : ∀ k, k < l.length → Good (at' l k)) :
    Calls Try.prog 45 #[.slice a l.length cap, .int .i64 v, .int .i64 ad] w fun e w' => e = .returned (.tuple #[(.agg #[.int .i64 (foundP l v ad).fr, .int .i64 (foundP l v ad).to, .int .i64 (foundP l v ad).va, .int .i64 (foundP l v ad).ki, .int .i64 (foundP l v ad).nn]), .bool (isFound l v ad)]) ∧ Below w.heap.size w w' := by
  have HI := Lib.hid hin
  have hb3 : Below w.heap.size w (((w.alloc (.cells #[.int .i64 v] 3)).alloc (.cells #[.int .i64 ad] 3)).alloc (.cells #[.int .i64 0, .int .i64 0, .int .i64 0, .int .i64 0, .int .i64 0] 38)) := (((Below.refl _ _).alloc (Nat.le_refl _) _).alloc (by simp) _).alloc (by simp; omega) _
  have HX := Lib.hid (idx_any 60 #[.pointer (some ⟨w.heap.size, 0, none⟩), .pointer (some ⟨w.heap.size + 1, 0, none⟩)] find1_enter (covers v ad) l a cap _ (hin.below hb3) hl (fun k W hk hb => find1_any (at' l k) v ad w.heap.size (w.heap.size + 1) W (hg k hk) (keep (by simp [go_sem]) hb) (keep (by simp [go_sem]) hb)))
  have HF := Lib.hid (fun r h => @idx_found l v ad r h)
  have HB3 := Lib.hid hb3
  clear hb3 hin hg
  generalize foundP l v ad = p at *
  generalize isFound l v ad = b at *
  go_enter Try.func45, Try.ntmps45
  go_wp2_with fail
  refine HX.out.mono ?_; rintro e w1 ⟨r, rfl, hr, hb1⟩
  have HB1 := Lib.hid (HB3.out.trans (hb1.mono HB3.out.size))
  have hbx : BoxAt w1 (w.heap.size + 1 + 1) 0 0 0 0 0 := ⟨(hb1.block _ (by simp)).trans (by rw [heap_at]; simp)⟩
  obtain ⟨q, hq⟩ : ∃ q, w.heap.size + 1 + 1 = q := ⟨_, rfl⟩
  have hwq : w.heap.size ≤ q := by omega
  rw [hq] at hbx
  have HBx := Lib.hid hbx
  clear hb1 hbx
  rw [hq]
  have HQ := Lib.hid hq; clear hq
  rcases HF.out _ hr with ⟨rfl, rfl, rfl⟩ | ⟨k, hk, rfl, hp, rfl⟩
  · clear hr
    obtain ⟨e0, e1, e2, e3, e4, f0, f1, f2, f3, f4, h0, h1, h2, h3, h4⟩ := HBx.out.five noPl
    have HB4 := Lib.hid (below_five HB1.out hwq (.int .i64 0) (.int .i64 0) (.int .i64 0) (.int .i64 0) (.int .i64 0))
    simp only [noPl] at h0 h1 h2 h3 h4
    go_wp2_with fail
    exact bodyPost_ret (v := .tuple #[.agg #[.int .i64 0, .int .i64 0, .int .i64 0, .int .i64 0, .int .i64 0], .bool false]) (by simp [results, Try.results45, go_sem, h0, h1, h2, h3, h4]) rfl ⟨rfl, HB4.out⟩
  · obtain ⟨b, off, rfl, hc⟩ := HI.out.below HB1.out k hk
    subst hp
    have hki : (k : Int) < (l.length : Int) := by omega
    have hk0 : (0 : Int) ≤ (k : Int) := by omega
    have hkn : ¬ (k : Int) < 0 := by omega
    generalize hpk : at' l k = p at *
    obtain ⟨x0, x1, x2, x3, x4⟩ := p
    have HPk := Lib.hid hpk; clear hpk
    obtain ⟨c0, c1, c2, c3, c4⟩ := hc
    obtain ⟨e0, e1, e2, e3, e4, f0, f1, f2, f3, f4, h0, h1, h2, h3, h4⟩ := HBx.out.five ⟨x0, x1, x2, x3, x4⟩
    have HB4 := Lib.hid (below_five HB1.out hwq (.int .i64 x0) (.int .i64 x1) (.int .i64 x2) (.int .i64 x3) (.int .i64 x4))
    simp only at c0 c1 c2 c3 c4 h0 h1 h2 h3 h4
    clear hr
    go_wp2_with fail
    exact bodyPost_ret (v := .tuple #[.agg #[.int .i64 x0, .int .i64 x1, .int .i64 x2, .int .i64 x3, .int .i64 x4], .bool true]) (by simp [results, Try.results45, go_sem, h0, h1, h2, h3, h4]) rfl ⟨by rw [HPk.out], HB4.out⟩
end Go.Proofs.Ytmhneonebjcieaa
