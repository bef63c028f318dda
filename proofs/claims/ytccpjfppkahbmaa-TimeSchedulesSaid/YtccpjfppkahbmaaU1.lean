/- The walk of time.urgency. -/
import Derived.Test.YtccpjfppkahbmaaG2
import Derived.Test.YtccpjfppkahbmaaB6
namespace Go.Proofs.Ytccpjfppkahbmaa
open Go.RowKit PK Go.Maps

theorem tabN_at {l : List Cd} {k m : Nat} (h : m < (tabN l k k).length) : ∃ i : Nat, (tabN l k k).getD m 0 = (i : Int) ∧ i < k := by
  have hm : (tabN l k k).getD m 0 ∈ tabN l k k := by
    rw [getD_get h]; exact List.getElem_mem h
  unfold tabN at hm
  obtain ⟨i, hi, e⟩ := List.mem_map.1 hm
  exact ⟨i, e.symm, List.mem_range.1 (List.mem_filter.1 hi).1⟩
theorem TabIn.save {w w' : World} {q qt n : Nat} {R : Nat → List Int} (h : TabIn w qt n R) (hs : Save q w w') (hq : q < qt) : TabIn w' qt n R := fun k hk => by
  obtain ⟨a, cap, hc, hi, hb⟩ := h k hk
  refine ⟨a, cap, hs.cell (by omega) hc, fun j hj => ?_, hb⟩
  obtain ⟨b, off, rfl, hcj⟩ := hi j hj
  have := hb b off rfl
  exact ⟨b, off, rfl, hs.cell (by omega) hcj⟩
theorem TabIn.below {w w' : World} {qt n : Nat} {R : Nat → List Int} (h : TabIn w qt n R) (hb : Below w.heap.size w w') : TabIn w' qt n R := fun k hk => by
  obtain ⟨a, cap, hc, hi, hb2⟩ := h k hk
  exact ⟨a, cap, keep hc hb, hi.below hb, hb2⟩
set_option maxRecDepth 100000 in
set_option maxHeartbeats 8000000 in
theorem urgency_any (l : List Cd) (a : Option Addr) (cap : Nat) (w : World) (hin : CdsIn w a l) (hlc : l.length ≤ cap) (hl : l.length ≤ 40) (hok : ∀ k, k < l.length → okC (atC l k) = true) :
    Calls Try.prog 98 #[.slice a l.length cap] w fun e w' => (∃ q f, e = .returned (.slice (some ⟨q, 0, none⟩) l.length l.length) ∧ w.heap.size ≤ q ∧ NRow w' q l.length f) ∧ Below w.heap.size w w' := by
  have HI := Lib.hid hin
  have HTab := Lib.hid (fun (u : World) (hu : Below w.heap.size w u) => table_own l a cap u (hin.below hu) hlc hl hok)
  clear hin hok hlc
  have hmkr := run_make_row' (P := Try.prog) 25 3 (.int .i64 0) 8 Try.underlying25 Try.infoInt rfl .i64 .i64 l.length (by omega) (by omega)
  go_enter Try.func98, Try.ntmps98
  go_wp2_with fail
  have HN0 := Lib.hid (nrow_made w l.length)
  have hal := (Below.refl w.heap.size w).alloc (Nat.le_refl _) (.cells (madeCells #[.int .i64 0] l.length) 3)
  have hsz : (w.alloc (.cells (madeCells #[.int .i64 0] l.length) 3)).heap.size = w.heap.size + 1 := by simp
  have HT := Lib.hid (HTab.out _ hal)
  clear hmkr HTab
  generalize w.alloc (.cells (madeCells #[.int .i64 0] l.length) 3) = w2 at *
  refine HT.out.mono ?_; rintro e w3 ⟨⟨qt, rfl, hq1, hq2, htab⟩, hb3⟩
  have HB3 := Lib.hid (hal.trans (hb3.mono hal.size))
  have HN3 := Lib.hid (HN0.out.below hb3)
  have HTb := Lib.hid htab
  rw [hsz] at hq1
  generalize hq : w.heap.size = q at *
  have hqt : q < qt := by omega
  have hq3 : q < w3.heap.size := HN3.out.lt
  clear hal hb3 HT HN0 htab hsz
  go_wp2_with fail
  go_loopw [5] (fun i wr => ∃ k : Nat, k ≤ l.length ∧ i = .int .i64 ((k : Int) - 1) ∧ ∃ f, NRow wr q l.length f ∧ Save q w3 wr) (fun i _ => (intOf i + 1).toNat)
  case atStart => exact ⟨l.length, Nat.le_refl _, rfl, _, HN3.out, Save.refl _ _⟩
  case round =>
    obtain ⟨k, hk, rfl, f, hn, hs⟩ := hrel
    have HN := Lib.hid hn; have HS := Lib.hid hs
    have HBw := Lib.hid (HB3.out.trans (hs.below (B := q) (Nat.le_refl _) (by omega)))
    clear hn hs
    rcases Nat.eq_zero_or_pos k with rfl | hpos
    · have HNf := Lib.hid HN.out
      go_wp2_with fail
      go_ret
      exact ⟨⟨q, f, rfl, by rw [hq]; exact Nat.le_refl _, HN.out⟩, by rw [hq]; exact HBw.out⟩
    · obtain ⟨k, rfl⟩ : ∃ k', k = k' + 1 := ⟨k - 1, by omega⟩
      rw [show (((k + 1 : Nat) : Int) - 1) = (k : Int) by omega]
      have hlt : k < l.length := by omega
      have hki : (k : Int) < (l.length : Int) := by omega
      have hk0 : (0 : Int) ≤ (k : Int) := by omega
      obtain ⟨bb, off, rfl, hcd⟩ := HI.out.below (by rw [hq]; exact HBw.out) k hlt
      have hc0 := hcd.c0
      have hcf := HN.out.cell hlt
      have hff := HN.out.free k
      have HLx := Lib.hid (tLat_any (atC l k).op)
      have HLv : Hid (∀ u : World, Calls Try.prog 43 #[.int .i64 (atC l k).op] u fun e w' => e = .returned (.int .i64 (lat (atC l k).op)) ∧ w' = u) := Lib.hid (fun u => (HLx.out u).mono (by rintro e w' ⟨rfl, rfl⟩; exact ⟨rfl, rfl⟩))
      clear hcd HLx
      generalize lat (atC l k).op = lv at *
      generalize (atC l k).op = op at *
      go_wp2_with fail
      refine wp_region_still_tail 12 (by kernel_rfl) (by kernel_rfl) ?_
      simp only [List.take_succ_cons, List.take_zero, List.drop_succ_cons, List.drop_zero]
      repeat (first | still_step | still_call (HLv.out _))
      refine wpStill_nil ?_
      change wpList _ _ _ _ _ wr.drew
      have hcf2 : wr.drew.cell? ⟨q, k, none⟩ = some (.int .i64 (f k)) := hcf
      have hff2 : wr.drew.frozen? ⟨q, k, none⟩ = false := hff
      have HNd : Hid (NRow wr.drew q l.length f) := HN
      have HSd := Lib.hid (HS.out.trans (save_drew q wr))
      clear hcf hff HN HS hc0 HBw
      generalize wr.drew = wd at *
      go_upto_region 7 with (fail)
      have HN5 := Lib.hid (HNd.out.set k (wrap64 (f k + lv)))
      have HS5 := Lib.hid (HSd.out.trans (Save.set q k wd (.int .i64 (wrap64 (f k + lv)))))
      clear hcf2 hff2 HNd HSd HLv
      generalize wd.setCell ⟨q, k, none⟩ (.int .i64 (wrap64 (f k + lv))) = w5 at *
      generalize updI f k (wrap64 (f k + lv)) = f5 at *
      obtain ⟨ra, rc, hrc, _, _⟩ := (HTb.out.save HS5.out hqt) k hlt
      have hrl := tabN_len l k k
      have HRow : Hid (∀ u, Save q w3 u → IntsIn u ra (tabN l k k)) := Lib.hid (fun u hu => by
        obtain ⟨ra', rc', hrc', hi', _⟩ := (HTb.out.save hu hqt) k hlt
        have e1 := HTb.out k hlt
        obtain ⟨r0, c0, h0, _, _⟩ := e1
        have h1 := HS5.out.cell (show qt ≠ q by omega) h0
        have h2 := hu.cell (show qt ≠ q by omega) h0
        rw [hrc] at h1; rw [hrc'] at h2
        simp only [Option.some.injEq, Value.slice.injEq, true_and] at h1 h2
        obtain ⟨rfl, rfl⟩ := h1
        obtain ⟨rfl, rfl⟩ := h2
        exact hi')
      replace hrc : w5.cell? ⟨qt, k, none⟩ = some (.slice ra (tabN l k k).length rc) := hrc
      have HAt := Lib.hid (fun m (h : m < (tabN l k k).length) => tabN_at h)
      generalize tabN l k k = R at *
      go_wp2_with fail
      go_loopw [37] (fun i wr => ∃ m : Nat, m ≤ R.length ∧ i = .int .i64 m ∧ ∃ f, NRow wr q l.length f ∧ Save q w3 wr) (fun i _ => R.length - (intOf i).toNat)
      case atStart => exact ⟨0, Nat.zero_le _, rfl, f5, HN5.out, HS5.out⟩
      case round =>
        obtain ⟨m, hm, rfl, f6, hn, hs⟩ := hrel
        by_cases hml : m < R.length
        · have hmi : (m : Int) < (R.length : Int) := by omega
          have hm0 : (0 : Int) ≤ (m : Int) := by omega
          obtain ⟨rb, ro, rfl, hcr⟩ := HRow.out wr hs m hml
          obtain ⟨i, hi, hik⟩ := HAt.out m hml
          rw [hi] at hcr
          have hil : i < l.length := by omega
          have hili : (i : Int) < (l.length : Int) := by omega
          have hi0 : (0 : Int) ≤ (i : Int) := by omega
          have hci := hn.cell hil
          have hfi := hn.free i
          have hck := hn.cell hlt
          have HN := Lib.hid hn; have HS := Lib.hid hs
          clear hn hs hi
          go_wp2_with fail
          go_still_tail 12, (by kernel_rfl)
          change wpList _ _ _ _ _ wr.drew
          have hci2 : wr.drew.cell? ⟨q, i, none⟩ = some (.int .i64 (f6 i)) := hci
          have hfi2 : wr.drew.frozen? ⟨q, i, none⟩ = false := hfi
          have HNd : Hid (NRow wr.drew q l.length f6) := HN
          have HSd := Lib.hid (HS.out.trans (save_drew q wr))
          clear hci hfi hck HN HS
          generalize wr.drew = wd at *
          go_wp2_with fail
          go_roundw
          case rel => exact ⟨m + 1, by omega, by go_num, _, HNd.out.set i _, HSd.out.trans (Save.set q i wd _)⟩
          case measure => simp [intOf]; omega
        · obtain rfl : m = R.length := by omega
          have HN := Lib.hid hn; have HS := Lib.hid hs
          clear hn hs
          go_wp2_with fail
          go_roundw
          case rel => exact ⟨k, by omega, rfl, _, HN.out, HS.out⟩
          case measure => simp [intOf]; try omega
end Go.Proofs.Ytccpjfppkahbmaa
