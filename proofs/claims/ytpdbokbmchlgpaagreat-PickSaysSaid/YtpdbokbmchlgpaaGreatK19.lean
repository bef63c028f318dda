/- Packed of several texts. -/
import Derived.Test.YtpdbokbmchlgpaaGreatK04
import Derived.Test.YtpdbokbmchlgpaaGreatK13
import Derived.BigRegion
import Derived.Deep.Cut
import Derived.Outline
import Derived.Deep.RegionWith
import Derived.Deep.RegionHeld3
import Derived.IntWalk
namespace Go.Proofs.YtpdbokbmchlgpaaGreat.PK
open Go.RowKit

/-- What shapeOf says of an instruction's width, number and blocks. -/
def okI (nsl : Nat) (x : Ins) : Bool := formI nsl x && !(decide (clsI x.op = 16) && (decide (x.tt.length = 2) && decide (x.tt.getD 0 0 = x.tt.getD 1 0)))
def ShapePost (F : Fun) (x : Ins) (w : World) (e : Ending) (w' : World) : Prop := e = .returned (.tuple #[.agg #[.int .i64 (argsI F.ret x), .int .i64 (tosI x)], .bool (okI F.sl.length x)]) ∧ Below w.heap.size w w'
/-- The worlds and the facts at the head of shapeOf. -/
structure ShHead (F : Fun) (A : FunA) (x : Ins) (aa ta : Option Addr) (ca ct : Nat) (w W : World) : Prop where
  low : Below w.heap.size w W
  f0 : W.cell? ⟨w.heap.size, 1, none⟩ = some (.int .i64 F.ret)
  f2 : W.cell? ⟨w.heap.size, 2, none⟩ = some (.slice A.sa F.sl.length A.sc)
  x : InsAt W (w.heap.size + 1) 0 x aa ta ca ct
  r0 : W.cell? ⟨w.heap.size + 2, 0, none⟩ = some (.int .i64 0)
  r1 : W.cell? ⟨w.heap.size + 2, 1, none⟩ = some (.int .i64 0)
  z0 : W.frozen? ⟨w.heap.size + 2, 0, none⟩ = false
  z1 : W.frozen? ⟨w.heap.size + 2, 1, none⟩ = false
theorem cell_far {w : World} {b k q j : Nat} {v x : Value} (h : w.cell? ⟨b, k, none⟩ = some v) (hn : b ≠ q) : (w.setCell ⟨q, j, none⟩ x).cell? ⟨b, k, none⟩ = some v := by
  rw [World.cell?_of_block (w := w) (Below.heap_setCell _ _ _ _ (show b ≠ q from hn))]; exact h
theorem sh_head {F : Fun} {A : FunA} {x : Ins} {aa ta : Option Addr} {ca ct : Nat} {w : World} (ha : IntsIn w aa x.ar) (ht : IntsIn w ta x.tt) :
    ShHead F A x aa ta ca ct w (((w.alloc (.cells #[.slice A.pa F.ps.length A.pc, .int .i64 F.ret, .slice A.sa F.sl.length A.sc, .slice A.ba F.bs.length A.bc] 25)).alloc (.cells #[.int .i64 x.op, .int .i64 x.wd, .int .i64 x.fl, .slice aa x.ar.length ca, .int .u32 x.im, .slice ta x.tt.length ct] 65)).alloc (.cells #[.int .i64 0, .int .i64 0] 155)) := by
  have h1 := (Below.refl w.heap.size w).alloc (Nat.le_refl _) (.cells #[.slice A.pa F.ps.length A.pc, .int .i64 F.ret, .slice A.sa F.sl.length A.sc, .slice A.ba F.bs.length A.bc] 25)
  have hx := insAt_new (w.alloc (.cells #[.slice A.pa F.ps.length A.pc, .int .i64 F.ret, .slice A.sa F.sl.length A.sc, .slice A.ba F.bs.length A.bc] 25)) x aa ta ca ct 65 (ha.below h1) (ht.below h1)
  have h2 := (Below.refl (w.alloc (.cells #[.slice A.pa F.ps.length A.pc, .int .i64 F.ret, .slice A.sa F.sl.length A.sc, .slice A.ba F.bs.length A.bc] 25)).heap.size (w.alloc (.cells #[.slice A.pa F.ps.length A.pc, .int .i64 F.ret, .slice A.sa F.sl.length A.sc, .slice A.ba F.bs.length A.bc] 25))).alloc (Nat.le_refl _) (.cells #[.int .i64 x.op, .int .i64 x.wd, .int .i64 x.fl, .slice aa x.ar.length ca, .int .u32 x.im, .slice ta x.tt.length ct] 65)
  have hz : (w.alloc (.cells #[.slice A.pa F.ps.length A.pc, .int .i64 F.ret, .slice A.sa F.sl.length A.sc, .slice A.ba F.bs.length A.bc] 25)).heap.size = w.heap.size + 1 := by simp
  have hz2 : ((w.alloc (.cells #[.slice A.pa F.ps.length A.pc, .int .i64 F.ret, .slice A.sa F.sl.length A.sc, .slice A.ba F.bs.length A.bc] 25)).alloc (.cells #[.int .i64 x.op, .int .i64 x.wd, .int .i64 x.fl, .slice aa x.ar.length ca, .int .u32 x.im, .slice ta x.tt.length ct] 65)).heap.size = w.heap.size + 2 := by simp
  have f0 : (w.alloc (.cells #[.slice A.pa F.ps.length A.pc, .int .i64 F.ret, .slice A.sa F.sl.length A.sc, .slice A.ba F.bs.length A.bc] 25)).cell? ⟨w.heap.size, 1, none⟩ = some (.int .i64 F.ret) := by simp [go_sem]
  have f2 : (w.alloc (.cells #[.slice A.pa F.ps.length A.pc, .int .i64 F.ret, .slice A.sa F.sl.length A.sc, .slice A.ba F.bs.length A.bc] 25)).cell? ⟨w.heap.size, 2, none⟩ = some (.slice A.sa F.sl.length A.sc) := by simp [go_sem]
  generalize w.alloc (.cells #[.slice A.pa F.ps.length A.pc, .int .i64 F.ret, .slice A.sa F.sl.length A.sc, .slice A.ba F.bs.length A.bc] 25) = w1 at *
  have g0 := keep f0 h2; have g2 := keep f2 h2
  rw [hz] at hx
  generalize w1.alloc (.cells #[.int .i64 x.op, .int .i64 x.wd, .int .i64 x.fl, .slice aa x.ar.length ca, .int .u32 x.im, .slice ta x.tt.length ct] 65) = w2 at *
  have h3 := (Below.refl w2.heap.size w2).alloc (Nat.le_refl _) (.cells #[.int .i64 0, .int .i64 0] 155)
  refine ⟨(h1.trans (h2.mono (by omega))).trans (h3.mono (by omega)), keep g0 h3, keep g2 h3, hx.below h3, ?_, ?_, ?_, ?_⟩
  · rw [World.cell?_alloc_at _ _ _ _ hz2.symm]; rfl
  · rw [World.cell?_alloc_at _ _ _ _ hz2.symm]; rfl
  · rw [← hz2]; simp [go_sem]
  · rw [← hz2]; simp [go_sem]
end Go.Proofs.YtpdbokbmchlgpaaGreat.PK
