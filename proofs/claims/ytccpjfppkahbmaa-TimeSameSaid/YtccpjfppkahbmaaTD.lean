/- The walk of known (joined). -/
import Derived.Test.YtccpjfppkahbmaaTC
namespace Go.Proofs.Ytccpjfppkahbmaa
open Go.RowKit PK

theorem ints_made (w : World) (l : List Int) (t : TypeId) : IntsIn (w.alloc (.cells (PK.encI l).toArray t)) (some ⟨w.heap.size, 0, none⟩) l := fun k hk => by
  refine ⟨w.heap.size, 0, rfl, ?_⟩
  rw [Nat.zero_add, cell_of_row _ w.heap.size k _ _ _ (heap_alloc_new w _)]
  simp [PK.encI, List.getD_eq_getElem?_getD, hk]
set_option maxRecDepth 100000 in
set_option maxHeartbeats 2000000 in
theorem known_any (w : World) : Calls Try.prog 11 #[] w fun e w' => e = .returned (.bool true) ∧ Below w.heap.size w w' := by
  have HC1 := Lib.hid (cds_made w kl1 42)
  have HB1 := Lib.hid ((Below.refl w.heap.size w).alloc (Nat.le_refl _) (.cells (PK.encC kl1).toArray 42))
  go_enter Try.func11, Try.ntmps11
  go_wp2_with fail
  have HC1' : Hid (CdsIn (w.alloc (.cells #[.int .i64 4, .int .i64 1, .int .i64 0, .int .i64 0, .int .u32 0, .int .i64 0, .int .i64 2, .int .i64 2, .int .i64 1, .int .i64 1, .int .u32 0, .int .i64 0, .int .i64 0, .int .i64 3, .int .i64 0, .int .i64 0, .int .u32 0, .int .i64 0] 42)) (some ⟨w.heap.size, 0, none⟩) kl1) := HC1
  have HB1' : Hid (Below w.heap.size w (w.alloc (.cells #[.int .i64 4, .int .i64 1, .int .i64 0, .int .i64 0, .int .u32 0, .int .i64 0, .int .i64 2, .int .i64 2, .int .i64 1, .int .i64 1, .int .u32 0, .int .i64 0, .int .i64 0, .int .i64 3, .int .i64 0, .int .i64 0, .int .u32 0, .int .i64 0] 42))) := HB1
  clear HC1 HB1
  generalize w.alloc (.cells #[.int .i64 4, .int .i64 1, .int .i64 0, .int .i64 0, .int .u32 0, .int .i64 0, .int .i64 2, .int .i64 2, .int .i64 1, .int .i64 1, .int .u32 0, .int .i64 0, .int .i64 0, .int .i64 3, .int .i64 0, .int .i64 0, .int .u32 0, .int .i64 0] 42) = w1 at *
  generalize hq : w.heap.size = q
  rw [hq] at HC1'
  clear hq
  refine (known_issue _ _ HC1'.out).mono ?_; rintro e w2 ⟨⟨ra, rc, rfl, hri⟩, hb2⟩
  have HR := Lib.hid hri
  have HB2 := Lib.hid (HB1'.out.trans (hb2.mono HB1'.out.size))
  have HC2 := Lib.hid (HC1'.out.below hb2)
  clear hb2 hri
  have hcell : ∀ j u, (PK.encC kl1)[j]? = some u → w2.cell? ⟨q, j, none⟩ = some u := fun j u h => by
    have := cds_cells HC2.out j u h
    rwa [Nat.zero_add] at this
  have k0 : w2.cell? ⟨q, 0, none⟩ = some (.int .i64 4) := hcell 0 _ rfl
  have k1 : w2.cell? ⟨q, 1, none⟩ = some (.int .i64 1) := hcell 1 _ rfl
  have k2 : w2.cell? ⟨q, 2, none⟩ = some (.int .i64 0) := hcell 2 _ rfl
  have k3 : w2.cell? ⟨q, 3, none⟩ = some (.int .i64 0) := hcell 3 _ rfl
  have k4 : w2.cell? ⟨q, 4, none⟩ = some (.int .u32 0) := hcell 4 _ rfl
  have k5 : w2.cell? ⟨q, 5, none⟩ = some (.int .i64 0) := hcell 5 _ rfl
  have k6 : w2.cell? ⟨q, 6, none⟩ = some (.int .i64 2) := hcell 6 _ rfl
  have k7 : w2.cell? ⟨q, 7, none⟩ = some (.int .i64 2) := hcell 7 _ rfl
  have k8 : w2.cell? ⟨q, 8, none⟩ = some (.int .i64 1) := hcell 8 _ rfl
  have k9 : w2.cell? ⟨q, 9, none⟩ = some (.int .i64 1) := hcell 9 _ rfl
  have k10 : w2.cell? ⟨q, 10, none⟩ = some (.int .u32 0) := hcell 10 _ rfl
  have k11 : w2.cell? ⟨q, 11, none⟩ = some (.int .i64 0) := hcell 11 _ rfl
  have k12 : w2.cell? ⟨q, 12, none⟩ = some (.int .i64 0) := hcell 12 _ rfl
  have k13 : w2.cell? ⟨q, 13, none⟩ = some (.int .i64 3) := hcell 13 _ rfl
  have k14 : w2.cell? ⟨q, 14, none⟩ = some (.int .i64 0) := hcell 14 _ rfl
  have k15 : w2.cell? ⟨q, 15, none⟩ = some (.int .i64 0) := hcell 15 _ rfl
  have k16 : w2.cell? ⟨q, 16, none⟩ = some (.int .u32 0) := hcell 16 _ rfl
  have k17 : w2.cell? ⟨q, 17, none⟩ = some (.int .i64 0) := hcell 17 _ rfl
  clear hcell
  have HAL : Hid (Below w2.heap.size w2 (w2.alloc (.cells #[.int .i64 4, .int .i64 1, .int .i64 0, .int .i64 0, .int .u32 0, .int .i64 0, .int .i64 0, .int .i64 3, .int .i64 0, .int .i64 0, .int .u32 0, .int .i64 0, .int .i64 2, .int .i64 2, .int .i64 1, .int .i64 1, .int .u32 0, .int .i64 0] 42))) := Lib.hid ((Below.refl _ _).alloc (Nat.le_refl _) _)
  have HC3 : Hid (CdsIn (w2.alloc (.cells #[.int .i64 4, .int .i64 1, .int .i64 0, .int .i64 0, .int .u32 0, .int .i64 0, .int .i64 0, .int .i64 3, .int .i64 0, .int .i64 0, .int .u32 0, .int .i64 0, .int .i64 2, .int .i64 2, .int .i64 1, .int .i64 1, .int .u32 0, .int .i64 0] 42)).drew (some ⟨w2.heap.size, 0, none⟩) kl2) := Lib.hid (fun k hk => by
    obtain ⟨b, off, e, hc⟩ := cds_made w2 kl2 42 k hk
    exact ⟨b, off, e, ⟨hc.c0, hc.c1, hc.c2, hc.c3, hc.c4, hc.c5⟩⟩)
  go_upto_region 3 with (fail)
  go_region_held3 (fun w' => w'.cell? ⟨q, 0, none⟩ = some (.int .i64 4) ∧ w'.cell? ⟨q, 1, none⟩ = some (.int .i64 1) ∧ w'.cell? ⟨q, 2, none⟩ = some (.int .i64 0) ∧ w'.cell? ⟨q, 3, none⟩ = some (.int .i64 0) ∧ w'.cell? ⟨q, 4, none⟩ = some (.int .u32 0) ∧ w'.cell? ⟨q, 5, none⟩ = some (.int .i64 0) ∧ w'.cell? ⟨q, 6, none⟩ = some (.int .i64 2) ∧ w'.cell? ⟨q, 7, none⟩ = some (.int .i64 2) ∧ w'.cell? ⟨q, 8, none⟩ = some (.int .i64 1) ∧ w'.cell? ⟨q, 9, none⟩ = some (.int .i64 1) ∧ w'.cell? ⟨q, 10, none⟩ = some (.int .u32 0) ∧ w'.cell? ⟨q, 11, none⟩ = some (.int .i64 0) ∧ w'.cell? ⟨q, 12, none⟩ = some (.int .i64 0) ∧ w'.cell? ⟨q, 13, none⟩ = some (.int .i64 3) ∧ w'.cell? ⟨q, 14, none⟩ = some (.int .i64 0) ∧ w'.cell? ⟨q, 15, none⟩ = some (.int .i64 0) ∧ w'.cell? ⟨q, 16, none⟩ = some (.int .u32 0) ∧ w'.cell? ⟨q, 17, none⟩ = some (.int .i64 0))
    (first | exact ⟨k0, k1, k2, k3, k4, k5, k6, k7, k8, k9, k10, k11, k12, k13, k14, k15, k16, k17⟩ | exact ⟨keep k0 (below_drew1 HAL.out), keep k1 (below_drew1 HAL.out), keep k2 (below_drew1 HAL.out), keep k3 (below_drew1 HAL.out), keep k4 (below_drew1 HAL.out), keep k5 (below_drew1 HAL.out), keep k6 (below_drew1 HAL.out), keep k7 (below_drew1 HAL.out), keep k8 (below_drew1 HAL.out), keep k9 (below_drew1 HAL.out), keep k10 (below_drew1 HAL.out), keep k11 (below_drew1 HAL.out), keep k12 (below_drew1 HAL.out), keep k13 (below_drew1 HAL.out), keep k14 (below_drew1 HAL.out), keep k15 (below_drew1 HAL.out), keep k16 (below_drew1 HAL.out), keep k17 (below_drew1 HAL.out)⟩ | exact ⟨keep k0 HB6, keep k1 HB6, keep k2 HB6, keep k3 HB6, keep k4 HB6, keep k5 HB6, keep k6 HB6, keep k7 HB6, keep k8 HB6, keep k9 HB6, keep k10 HB6, keep k11 HB6, keep k12 HB6, keep k13 HB6, keep k14 HB6, keep k15 HB6, keep k16 HB6, keep k17 HB6⟩)
    (first | (go_at_call 14; refine (known_cost _ _ HC3.out).mono ?_; rintro e w6 ⟨rfl, hb6⟩; have HB6 := HAL.out.trans ((below_of_drew hb6).mono HAL.out.size)))
  have HR6 := Lib.hid (HR.out.below HB6)
  have HB7 := Lib.hid (HB2.out.trans (HB6.mono HB2.out.size))
  clear hb6 HB6 HAL HC3 HR HB2 HC2 HC1' HB1' k0 k1 k2 k3 k4 k5 k6 k7 k8 k9 k10 k11 k12 k13 k14 k15 k16 k17
  have HS := Lib.hid (fun p c1 c2 w' h1 h2 => same_any [0, 3, 4] ra p c1 c2 w' h1 h2 (by decide))
  have HB8 := HB7.out.alloc HB7.out.size (.cells #[.int .i64 0, .int .i64 3, .int .i64 4] 3)
  have HI8 : Hid (IntsIn (w6.alloc (.cells #[.int .i64 0, .int .i64 3, .int .i64 4] 3)) (some ⟨w6.heap.size, 0, none⟩) [0, 3, 4]) := Lib.hid (ints_made w6 [0, 3, 4] 3)
  have HR8 := Lib.hid (HR6.out.below ((Below.refl w6.heap.size w6).alloc (Nat.le_refl _) (.cells #[.int .i64 0, .int .i64 3, .int .i64 4] 3)))
  have HB8 := Lib.hid HB8
  go_wp2_with fail
  refine (HS.out _ _ _ _ HR8.out HI8.out).mono ?_; rintro e w9 ⟨rfl, hb9⟩
  have HB9 := Lib.hid (HB8.out.trans (hb9.mono HB8.out.size))
  clear hb9 HS HR8 HI8 HB8
  go_wp2_with fail
  go_ret
  exact ⟨rfl, HB9.out⟩
end Go.Proofs.Ytccpjfppkahbmaa
