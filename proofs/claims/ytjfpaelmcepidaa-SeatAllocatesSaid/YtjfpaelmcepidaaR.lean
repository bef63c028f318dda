/- The walk of row. -/
import Derived.Test.YtjfpaelmcepidaaV
import Derived.Test.YtjfpaelmcepidaaP2
import Derived.Maps.OwnOps
import Derived.StillTailTactics
namespace Go.Proofs.Ytjfpaelmcepidaa
open Go.RowKit Go.Maps

theorem OSt.qne {w : World} {q b1 b2 base : Nat} {s : RSt} {dv : Value} (h : OSt w q b1 b2 base s dv) : b1 ≠ q ∧ b2 ≠ q := by
  constructor
  · intro e
    obtain ⟨n, D, _, ⟨es, clock, h1, _⟩, _⟩ := h.fr
    rw [e, h.obj] at h1; cases h1
  · intro e
    obtain ⟨n, D, _, ⟨es, clock, h1, _⟩, _⟩ := h.cp
    rw [e, h.obj] at h1; cases h1
theorem OSt.turn1 {w w' : World} {q b1 b2 base : Nat} {s : RSt} {dv : Value} {f : PF} (h : OSt w q b1 b2 base s dv) (ht : w.mapTurned w' b1) (hm : MapAt w' b1 f) : OSt w' q b1 b2 base ⟨f, s.cp, s.dn⟩ dv := by
  have hg := ht.grown
  refine ⟨?_, hm, h.cp.kept hg (by simp only [ne_eq, Option.some.injEq]; exact fun e => h.ne e.symm), h.dn.kept hg ?_, h.q0, h.b10, h.b20, h.ne, Nat.le_trans h.le hg.size⟩
  · rw [hg.block q (lt_of_block h.obj) (by simp only [ne_eq, Option.some.injEq]; exact fun e => h.qne.1 e.symm)]; exact h.obj
  · cases hv : dv.ownBlock with
    | none => exact .inl rfl
    | some g => exact .inr (fun e => by have := (h.dn.lt g hv).1; have := h.b10; simp only [Option.some.injEq] at e; omega)
theorem OSt.turn2 {w w' : World} {q b1 b2 base : Nat} {s : RSt} {dv : Value} {f : PF} (h : OSt w q b1 b2 base s dv) (ht : w.mapTurned w' b2) (hm : MapAt w' b2 f) : OSt w' q b1 b2 base ⟨s.fr, f, s.dn⟩ dv := by
  have hg := ht.grown
  refine ⟨?_, h.fr.kept hg (by simp only [ne_eq, Option.some.injEq]; exact h.ne), hm, h.dn.kept hg ?_, h.q0, h.b10, h.b20, h.ne, Nat.le_trans h.le hg.size⟩
  · rw [hg.block q (lt_of_block h.obj) (by simp only [ne_eq, Option.some.injEq]; exact fun e => h.qne.2 e.symm)]; exact h.obj
  · cases hv : dv.ownBlock with
    | none => exact .inl rfl
    | some g => exact .inr (fun e => by have := (h.dn.lt g hv).1; have := h.b20; simp only [Option.some.injEq] at e; omega)
theorem turned_below {W w w' : World} {b B : Nat} (hb : Below B W w) (ht : w.mapTurned w' b) (hB : B ≤ W.heap.size) (hBb : B ≤ b) : Below B W w' := by
  have hg := ht.grown
  exact ⟨hg.os.trans hb.os, hg.tape.trans hb.tape, hg.output.trans hb.output, Nat.le_trans hb.size hg.size, fun k hk => by
    rw [hg.block k (by have := hb.size; omega) (by simp only [ne_eq, Option.some.injEq]; omega)]; exact hb.block k hk⟩
theorem ost_made (w : World) : OSt (((w.alloc (.map #[] 0)).alloc (.map #[] 0)).alloc (.cells #[.map (some w.heap.size), .map (some (w.heap.size + 1)), .slice none 0 0] 127 (0, 0))) (w.heap.size + 2) w.heap.size (w.heap.size + 1) (w.heap.size + 3) ⟨fun _ => none, fun _ => none, []⟩ (.slice none 0 0) := by
  refine ⟨heap_at _ _ _ (by simp), ?_, ?_, World.ownsRow_nil _ _ _ _, by omega, by omega, by omega, by omega, by simp⟩
  · exact ((MapAt.of (World.ownsMap_made w _ _ _) MF.empty).kept (World.grownBy_alloc _ _ none) (by simp)).kept (World.grownBy_alloc _ _ none) (by simp)
  · have := MapAt.of (World.ownsMap_made (w.alloc (.map #[] 0)) Try.prog 3 (plainElem Try.prog 3)) MF.empty
    rw [World.size_alloc] at this
    exact this.kept (World.grownBy_alloc _ _ none) (by simp)
theorem MOk.take {l : List (Nat × Nat)} (h : MOk l) (k : Nat) : MOk (l.take k) := by
  refine ⟨by have := h.len; rw [List.length_take]; omega, fun m hm => h.reg m (List.mem_of_mem_take hm), ?_⟩
  rw [List.map_take]
  exact List.Nodup.sublist (List.take_sublist _ _) h.one
theorem fromF_next {l : List (Nat × Nat)} (h : MOk l) {k : Nat} (hk : k < l.length) :
    fromF (l.take (k + 1)) = if (l.getD k (0, 0)).1 = (l.getD k (0, 0)).2 then fromF (l.take k) else put (fromF (l.take k)) (l.getD k (0, 0)).1 (l.getD k (0, 0)).2 := by
  have e : l.take (k + 1) = l.take k ++ [l.getD k (0, 0)] := by
    rw [List.take_succ_eq_append_getElem hk]
    simp [List.getD_eq_getElem?_getD, List.getElem?_eq_getElem hk]
  have hmem : l.getD k (0, 0) ∈ l.take (k + 1) := by rw [e]; simp
  have hnot : ∀ y, ((l.getD k (0, 0)).1, y) ∉ l.take k := fun y hy => by
    have h1 := (h.take (k + 1)).one
    rw [e, List.map_append, List.nodup_append] at h1
    exact h1.2.2 _ (List.mem_map.2 ⟨_, hy, rfl⟩) _ (by simp) rfl
  generalize l.getD k (0, 0) = m at *
  funext t
  apply Option.ext
  intro y
  rw [fromF_iff (h.take (k + 1)), e, List.mem_append, List.mem_singleton]
  split
  · rename_i hs
    rw [fromF_iff (h.take k)]
    constructor
    · rintro ⟨h1 | h1, h2⟩
      · exact ⟨h1, h2⟩
      · subst h1; exact absurd hs.symm h2
    · rintro ⟨h1, h2⟩
      exact ⟨.inl h1, h2⟩
  · rename_i hs
    by_cases c : t = m.1
    · subst c
      rw [put_at]
      constructor
      · rintro ⟨h1 | h1, h2⟩
        · exact absurd h1 (hnot y)
        · have : y = m.2 := by rw [← h1]
          rw [this]
      · intro h1
        have h1' : m.2 = y := by simpa using h1
        exact ⟨.inr (by rw [← h1']), by rw [← h1']; exact fun e => hs e.symm⟩
    · rw [put_ne c, fromF_iff (h.take k)]
      constructor
      · rintro ⟨h1 | h1, h2⟩
        · exact ⟨h1, h2⟩
        · exact absurd (by rw [← h1]) c
      · rintro ⟨h1, h2⟩
        exact ⟨.inl h1, h2⟩
theorem step_sub {sp : Nat} {s : RSt} {t x : Nat} (h : (stepS sp s).fr t = some x) : s.fr t = some x := by
  unfold stepS at h
  split at h
  · exact (del_some h).2
  · exact (del_some h).2
theorem iter_sub {sp : Nat} {s : RSt} : ∀ n t x, (iterS sp s n).fr t = some x → s.fr t = some x
  | 0, _, _, h => h
  | n + 1, t, x, h => iter_sub n t x (step_sub h)
theorem iter_dn {sp : Nat} {s : RSt} : ∀ n, (iterS sp s n).dn.length ≤ s.dn.length + 2 * n
  | 0 => by simp [iterS]
  | n + 1 => by
    have ih := iter_dn n (sp := sp) (s := s)
    show (stepS sp (iterS sp s n)).dn.length ≤ _
    unfold stepS
    split
    · show (_ ++ [_]).length ≤ _
      rw [List.length_append]
      simp only [List.length_cons, List.length_nil]
      omega
    · show ((_ ++ [_]) ++ [_]).length ≤ _
      rw [List.length_append, List.length_append]
      simp only [List.length_cons, List.length_nil]
      omega
theorem zero_getD {l : List Nat} (h : l ≠ []) : l.getD 0 0 = l.headD 0 := by
  cases l with
  | nil => exact absurd rfl h
  | cons a l => rfl

/-- How many entries a map has. -/
def mapSize (w : World) (b : Nat) : Nat := match w.heap[b]? with
  | some (.map es _) => es.size
  | _ => 0
theorem ownM_size {w : World} {b n : Nat} {D : DataW Unit} (h : OwnM w b n D) : mapSize w b = Maps.size D := by
  obtain ⟨es, clock, h1, _, _, rfl⟩ := h
  unfold mapSize
  rw [h1]
  simp only [Maps.size]
  rw [length_sorted]
  simp
theorem MapAt.size {w : World} {b : Nat} {f : PF} (h : MapAt w b f) : mapSize w b = (keysL f).length := by
  obtain ⟨n, D, _, ho, hm⟩ := h
  rw [ownM_size ho, hm.size]
theorem moveS_none {s : RSt} {t x : Nat} (hx : s.fr t = some x) (hc : s.cp x = none) : moveS s t = ⟨del s.fr t, put s.cp x t, s.dn ++ [(t, (s.cp x).getD x)]⟩ := by
  unfold moveS; rw [nextV_eq hx, hc]; rfl
theorem moveS_some {s : RSt} {t x y : Nat} (hx : s.fr t = some x) (hc : s.cp x = some y) : moveS s t = ⟨del s.fr t, s.cp, s.dn ++ [(t, (s.cp x).getD x)]⟩ := by
  unfold moveS; rw [nextV_eq hx, hc]; rfl

set_option maxRecDepth 100000 in
set_option maxHeartbeats 4000000 in
theorem row_any (l : List (Nat × Nat)) (a : Option Addr) (cap sp : Nat) (w : World) (hin : PairsIn w a l) (hl : MOk l) (hsp : sp < 32) :
    Calls Try.prog 41 #[.slice a l.length cap, .int .i64 (sp : Nat)] w fun e w' => ∃ v, e = .returned v ∧ PairSl w' v (rowL l sp) ∧ Below w.heap.size w w' := by
  have hlen := hl.len
  have HIn := Lib.hid hin; have HL := Lib.hid hl
  have hmm := @run_makeMap Try.prog
  have hm0 : OSt _ (w.heap.size + 1 + 1) w.heap.size (w.heap.size + 1) (w.heap.size + 1 + 1 + 1) _ _ := ost_made w
  have hb0 : Below w.heap.size w (((w.alloc (.map #[] 0)).alloc (.map #[] 0)).alloc (.cells #[.map (some w.heap.size), .map (some (w.heap.size + 1)), .slice none 0 0] 127 (0, 0))) := (((Below.refl _ _).alloc (Nat.le_refl _) _).alloc (by simp) _).alloc (by simp; omega) _
  have HM0 := Lib.hid hm0; have HB0 := Lib.hid hb0
  have HFo := Lib.hid (fromF_ok hl)
  have HNx : Hid (∀ k, k < l.length → fromF (l.take (k + 1)) = if (l.getD k (0, 0)).1 = (l.getD k (0, 0)).2 then fromF (l.take k) else put (fromF (l.take k)) (l.getD k (0, 0)).1 (l.getD k (0, 0)).2) := Lib.hid fun k hk => fromF_next hl hk
  have HReg : Hid (∀ k, k < l.length → (l.getD k (0, 0)).1 ≤ 30 ∧ (l.getD k (0, 0)).2 ≤ 30) := Lib.hid fun k hk => hl.reg _ (by rw [List.getD_eq_getElem?_getD, List.getElem?_eq_getElem hk]; simp)
  clear hin hl hm0 hb0
  go_enter Try.func41, Try.ntmps41
  go_wp2_with fail
  generalize hW : ((w.alloc (.map #[] 0)).alloc (.map #[] 0)).alloc (.cells #[.map (some w.heap.size), .map (some (w.heap.size + 1)), .slice none 0 0] 127 (0, 0)) = W0 at *
  generalize hq1 : w.heap.size + 1 + 1 = q at *
  generalize hq2 : w.heap.size + 1 = b2 at *
  obtain ⟨b1, hq3⟩ : ∃ b1, b1 = w.heap.size := ⟨_, rfl⟩
  rw [← hq3] at HM0 ⊢
  have HQ3 := Lib.hid hq3
  have hwq : w.heap.size ≤ q := by omega
  have hwb2 : w.heap.size ≤ b2 := by omega
  have hwb1 : w.heap.size ≤ b1 := by omega
  clear hW hq1 hq2 hq3 hmm
  go_loopw [19] (fun i wr => ∃ k : Nat, k ≤ l.length ∧ i = .int .i64 k ∧ OSt wr q b1 b2 (q + 1) ⟨fromF (l.take k), fun _ => none, []⟩ (.slice none 0 0) ∧ Below w.heap.size w wr) (fun i _ => l.length - (intOf i).toNat)
  case atStart => exact ⟨0, Nat.zero_le _, rfl, HM0.out, HB0.out⟩
  case round =>
    obtain ⟨k, hk, rfl, hst, hb⟩ := hrel
    by_cases hlt : k < l.length
    · have hki : (k : Int) < (l.length : Int) := by omega
      obtain ⟨b, off, rfl, hc1, hc2⟩ := HIn.out.below hb k hlt
      have HSt := Lib.hid hst; have HB := Lib.hid hb
      have hnx := HNx.out k hlt
      obtain ⟨hx30, hy30⟩ := HReg.out k hlt
      have HNk := Lib.hid hnx
      clear hst hb hnx
      generalize l.getD k (0, 0) = m at *
      obtain ⟨x, y⟩ := m
      have hc1 : wr.cell? ⟨b, off + k * 2, none⟩ = some (.int .i64 (x : Nat)) := hc1
      have hc2 : wr.cell? ⟨b, off + k * 2 + 1, none⟩ = some (.int .i64 (y : Nat)) := hc2
      have hx30 : x ≤ 30 := hx30
      have hy30 : y ≤ 30 := hy30
      by_cases hxy : x = y
      · subst hxy
        have hbb : ((x : Int) == (x : Int)) = true := by simp
        have HN1 : Hid (fromF (l.take (k + 1)) = fromF (l.take k)) := Lib.hid (by rw [HNk.out]; exact if_pos rfl)
        clear HNk
        go_wp2_with fail
        go_roundw
        case rel => exact ⟨k + 1, by omega, by go_num, by rw [HN1.out]; exact HSt.out.below ((Below.refl _ _).alloc (Nat.le_refl _) _), HB.out.alloc HB.out.size _⟩
        case measure => simp [intOf]; omega
      · have hbb : ((x : Int) == (y : Int)) = false := by rw [beq_eq_false_iff_ne]; omega
        have HN1 : Hid (fromF (l.take (k + 1)) = put (fromF (l.take k)) x y) := Lib.hid (by rw [HNk.out]; exact if_neg hxy)
        have hstA : OSt (wr.alloc (.cells #[.int .i64 (x : Nat), .int .i64 (y : Nat)] 52)).drew q b1 b2 (q + 1) ⟨fromF (l.take k), fun _ => none, []⟩ (.slice none 0 0) := HSt.out.below (((Below.refl _ _).alloc (Nat.le_refl _) _).drew)
        have hbA : Below w.heap.size w (wr.alloc (.cells #[.int .i64 (x : Nat), .int .i64 (y : Nat)] 52)).drew := (HB.out.alloc HB.out.size _).drew
        obtain ⟨n1, D1, hn1, ho1, hm1⟩ := hstA.fr
        have hcq := HSt.out.c0
        have hqw : q < wr.heap.size := lt_of_block HSt.out.obj
        have HStA := Lib.hid hstA; have HBA := Lib.hid hbA; have HO1 := Lib.hid ho1; have HM1 := Lib.hid hm1
        have HA0 : Hid ((wr.alloc (.cells #[.int .i64 (x : Nat), .int .i64 (y : Nat)] 52)).cell? ⟨wr.heap.size, 0, none⟩ = some (.int .i64 (x : Nat))) := Lib.hid (by simp [go_sem])
        have HA1 : Hid ((wr.alloc (.cells #[.int .i64 (x : Nat), .int .i64 (y : Nat)] 52)).cell? ⟨wr.heap.size, 1, none⟩ = some (.int .i64 (y : Nat))) := Lib.hid (by simp [go_sem])
        have HAq : Hid ((wr.alloc (.cells #[.int .i64 (x : Nat), .int .i64 (y : Nat)] 52)).cell? ⟨q, 0, none⟩ = some (.map (some b1))) := Lib.hid (by rw [World.cell?_alloc_lt _ _ _ (by exact hqw)]; exact hcq)
        clear HNk hstA hbA ho1 hm1
        go_wp2_with fail
        generalize wr.alloc (.cells #[.int .i64 (x : Nat), .int .i64 (y : Nat)] 52) = w7 at *
        have hA0 := HA0.out; have hA1 := HA1.out; have hAq := HAq.out
        go_still_tail 8, (by kernel_rfl)
        change wpList _ _ _ _ _ w7.drew
        go_wp2_with (first | (at_mapUpdate; refine wpList_mapUpdate_in _ rfl _ _ _ 56 rfl 3 3 intLaw Try.underlying56 _ b1 _ _ rfl HO1.out (by unfold maxLen; omega) _ _ _ rfl rfl (key_nat (by omega)) _ [] (plainElem_int Try.underlying3 (wf_nat (by omega))) ?_; intro w5 hown5 hturn5; have HT5 := Lib.hid (HStA.out.turn1 hturn5 (MapAt.of hown5 (HM1.out.put (k := x) (y := y) (by omega) (by omega)))); have HB5 := Lib.hid (turned_below HBA.out hturn5 (Nat.le_refl _) hwb1); clear hown5 hturn5))
        go_roundw
        case rel => exact ⟨k + 1, by omega, by go_num, by rw [HN1.out]; exact HT5.out, HB5.out⟩
        case measure => simp [intOf]; omega
    · obtain rfl : k = l.length := by omega
      have hs0 : OSt wr q b1 b2 (q + 1) (iterS sp (startS l) 0) (.slice none 0 0) := by
        have := hst
        rw [List.take_length] at this
        exact this
      have HS0 := Lib.hid hs0; have HB := Lib.hid hb
      have HSub : Hid (∀ n t x, (iterS sp (startS l) n).fr t = some x → t < 31 ∧ x < 31) := Lib.hid fun n t x h => by
        have := HFo.out.ok t x (iter_sub n t x h)
        exact ⟨this.1, this.2.1⟩
      have HKey : Hid (∀ n, n ≤ (keysL (fromF l)).length → (keysL (iterS sp (startS l) n).fr).length + n = (keysL (fromF l)).length) := Lib.hid fun n hn => iter_keys (s := startS l) n hn
      have HDn : Hid (∀ n, (iterS sp (startS l) n).dn.length ≤ 2 * n) := Lib.hid fun n => by have := iter_dn (sp := sp) (s := startS l) n; simpa [startS] using this
      have HRow : Hid ((iterS sp (startS l) (keysL (fromF l)).length).dn = rowL l sp) := Lib.hid rfl
      have HIt : Hid (∀ n, iterS sp (startS l) (n + 1) = stepS sp (iterS sp (startS l) n)) := Lib.hid fun n => rfl
      have hn31 := keys_le31 (fromF l)
      clear hst hs0 hb
      generalize (keysL (fromF l)).length = N at *
      generalize startS l = S0 at *
      go_wp2_with fail
      go_loopw [8] (fun _ wr => ∃ (i : Nat) (dv : Value), i ≤ N ∧ OSt wr q b1 b2 (q + 1) (iterS sp S0 i) dv ∧ Below w.heap.size w wr) (fun _ wr => mapSize wr b1)
      case atStart => exact ⟨0, _, Nat.zero_le _, HS0.out, HB.out⟩
      case round =>
        obtain ⟨i, dv, hiN, hst, hb⟩ := hrel
        obtain ⟨n1, D1, hn1, ho1, hm1⟩ := hst.fr
        have hsz := hm1.size
        have hkey := HKey.out i hiN
        have hms := ownM_size ho1
        rw [hsz] at hms
        have HSz := Lib.hid hsz; have HMs := Lib.hid hms
        have hcq0 := hst.c0
        have HSt := Lib.hid hst; have HB := Lib.hid hb; have HO1 := Lib.hid ho1; have HM1 := Lib.hid hm1
        clear hst hb ho1 hm1 hsz hms
        by_cases hlt : i < N
        · have hpos : 0 < (keysL (iterS sp S0 i).fr).length := by omega
          have hposi : (0 : Int) < ((keysL (iterS sp S0 i).fr).length : Int) := by omega
          have HIi := Lib.hid (HIt.out i)
          have HSubi := Lib.hid (HSub.out i)
          have hdni := HDn.out i
          have HKey1 := Lib.hid (HKey.out (i + 1) (by omega))
          clear hkey
          generalize hSg : iterS sp S0 i = s at *
          clear hSg
          have HFr := Lib.hid (free_any q b1 b2 (q + 1) s dv wr HSt.out)
          cases hfo : freeO s with
          | some t =>
            rw [hfo] at HFr
            have hFr : Hid (Calls Try.prog 81 #[.pointer (some ⟨q, 0, none⟩)] wr fun e w' => e = .returned (.tuple #[.int .i64 (t : Nat), .bool true]) ∧ Below wr.heap.size wr w') := HFr
            clear HFr
            have HStep : Hid (iterS sp S0 (i + 1) = moveS s t) := Lib.hid (by rw [HIi.out]; unfold stepS; rw [hfo])
            obtain ⟨htk, _⟩ := freeO_some hfo
            obtain ⟨x, hx⟩ := Option.isSome_iff_exists.1 (keysL_mem.1 htk).2
            have hb31 := HSubi.out t x hx
            have ht31 : t < 31 := hb31.1
            have hx31 : x < 31 := hb31.2
            have HX := Lib.hid hx
            have HKs : Hid ((keysL (del s.fr t)).length + 1 = (keysL s.fr).length) := Lib.hid (keysL_del htk)
            clear hfo htk hx hb31
            go_wp2_with (first | (at_len; refine wpList_len_own _ rfl _ 56 rfl 3 3 Try.underlying56 _ b1 _ _ rfl HO1.out ?_; rw [HSz.out]))
            refine hFr.out.mono ?_; rintro e w2 ⟨rfl, hb2⟩
            have HSx := Lib.hid (HSt.out.below hb2); have HBx := Lib.hid (HB.out.trans (hb2.mono HB.out.size))
            obtain ⟨wx, hwx⟩ : ∃ wx, wx = w2 := ⟨_, rfl⟩
            subst hwx
            clear hb2
            have hcq3 := HSx.out.c0
            obtain ⟨n3, D3, hn3, ho3, hm3⟩ := HSx.out.fr
            have HO3 := Lib.hid ho3; have HM3 := Lib.hid hm3
            clear ho3 hm3
            go_wp2_with (first | (at_lookup; refine wpList_lookup_own_int _ rfl _ _ 56 rfl 3 3 .i64 intLaw Try.underlying56 Try.underlying3 (zeroInt _) b1 _ _ rfl HO3.out _ _ rfl (key_nat (by omega)) ?_; intro c hat hwc; obtain rfl : c = (x : Int) := (by rw [HM3.out.val t x HX.out] at hat; simpa using hat.symm); clear hat hwc))
            refine (move_any q b1 b2 (q + 1) s _ t x wx HSx.out (by omega) (by omega)).mono ?_; rintro e w14 ⟨rfl, ⟨dv14, h14⟩, hb14⟩
            have HS14 := Lib.hid h14; have HB14 := Lib.hid (HBx.out.trans (hb14 _ hwq))
            have hcq14 := h14.c0
            obtain ⟨n14, D14, hn14, ho14, hm14⟩ := h14.fr
            have HO14 := Lib.hid ho14; have HM14 := Lib.hid hm14
            clear h14 hb14 ho14 hm14
            cases hcp : s.cp x with
            | none =>
              have HCp := Lib.hid hcp
              have HMv := Lib.hid (moveS_none HX.out hcp)
              clear hcp
              go_wp2_with (first | (at_delete; refine wpList_delete_own _ rfl _ _ 56 3 rfl 3 intLaw Try.underlying56 _ b1 _ _ rfl HO14.out _ _ rfl (key_nat (by omega)) ?_; intro w15 hown15 hturn15; have HS15 := Lib.hid (HS14.out.turn1 hturn15 (MapAt.of hown15 (HM14.out.del (k := t) (by show (s.fr t).isSome = true; rw [HX.out]; rfl)))); have HB15 := Lib.hid (turned_below HB14.out hturn15 (Nat.le_refl _) hwb1); have hcq15 := HS15.out.c1; obtain ⟨n15, D15, hn15, ho15, hm15⟩ := HS15.out.cp; have HO15 := Lib.hid ho15; have HM15 := Lib.hid hm15; have HHas15 : Hid (Maps.has D15 (.int .i64 (x : Int)) = (s.cp x).isSome) := Lib.hid (has_isSome hm15 x); clear hown15 hturn15 ho15 hm15; rw [HCp.out] at HHas15) | (at_lookup; refine wpList_lookup_own_ok_int _ rfl _ _ 56 rfl 3 3 .i64 intLaw Try.underlying56 Try.underlying3 (zeroInt _) b2 _ _ rfl HO15.out _ _ rfl (key_nat (by omega)) ?_; intro c hat hwc; rw [HHas15.out]; clear hat hwc) | (at_mapUpdate; refine wpList_mapUpdate_in _ rfl _ _ _ 56 rfl 3 3 intLaw Try.underlying56 _ b2 _ _ rfl HO15.out (by unfold maxLen; omega) _ _ _ rfl rfl (key_nat (by omega)) _ [] (plainElem_int Try.underlying3 (wf_nat (by omega))) ?_; intro w16 hown16 hturn16; have HS16 := Lib.hid (HS15.out.turn2 hturn16 (MapAt.of hown16 (HM15.out.put (k := x) (y := t) (by omega) (by omega)))); have HB16 := Lib.hid (turned_below HB15.out hturn16 (Nat.le_refl _) hwb2); clear hown16 hturn16; go_frame))
              go_roundw
              case rel => exact ⟨i + 1, _, by omega, by rw [HStep.out, HMv.out]; exact HS16.out, HB16.out⟩
              case measure =>
                have h1 : mapSize w16 b1 = (keysL (del s.fr t)).length := HS16.out.fr.size
                have h2 := HKs.out; have h3 := HMs.out; omega
            | some y =>
              have HCp := Lib.hid hcp
              have HMv := Lib.hid (moveS_some HX.out hcp)
              clear hcp
              go_wp2_with (first | (at_delete; refine wpList_delete_own _ rfl _ _ 56 3 rfl 3 intLaw Try.underlying56 _ b1 _ _ rfl HO14.out _ _ rfl (key_nat (by omega)) ?_; intro w15 hown15 hturn15; have HS15 := Lib.hid (HS14.out.turn1 hturn15 (MapAt.of hown15 (HM14.out.del (k := t) (by show (s.fr t).isSome = true; rw [HX.out]; rfl)))); have HB15 := Lib.hid (turned_below HB14.out hturn15 (Nat.le_refl _) hwb1); have hcq15 := HS15.out.c1; obtain ⟨n15, D15, hn15, ho15, hm15⟩ := HS15.out.cp; have HO15 := Lib.hid ho15; have HM15 := Lib.hid hm15; have HHas15 : Hid (Maps.has D15 (.int .i64 (x : Int)) = (s.cp x).isSome) := Lib.hid (has_isSome hm15 x); clear hown15 hturn15 ho15 hm15; rw [HCp.out] at HHas15) | (at_lookup; refine wpList_lookup_own_ok_int _ rfl _ _ 56 rfl 3 3 .i64 intLaw Try.underlying56 Try.underlying3 (zeroInt _) b2 _ _ rfl HO15.out _ _ rfl (key_nat (by omega)) ?_; intro c hat hwc; rw [HHas15.out]; clear hat hwc))
              go_roundw
              case rel => exact ⟨i + 1, _, by omega, by rw [HStep.out, HMv.out]; exact HS15.out, HB15.out⟩
              case measure =>
                have h1 : mapSize w15 b1 = (keysL (del s.fr t)).length := HS15.out.fr.size
                have h2 := HKs.out; have h3 := HMs.out; omega
          | none =>
            rw [hfo] at HFr
            have hFr : Hid (Calls Try.prog 81 #[.pointer (some ⟨q, 0, none⟩)] wr fun e w' => e = .returned (.tuple #[.int .i64 0, .bool false]) ∧ Below wr.heap.size wr w') := HFr
            clear HFr
            have hne : keysL s.fr ≠ [] := fun c => by rw [c] at hpos; simp at hpos
            have hmem := (firstK_mem hne).1
            have hfirst : (keysL s.fr).getD 0 0 = firstK s := zero_getD hne
            have HStep : Hid (iterS sp S0 (i + 1) = moveS (breakS sp s) (firstK s)) := Lib.hid (by rw [HIi.out]; unfold stepS; rw [hfo])
            have HBr : Hid (breakS sp s = ⟨s.fr, put s.cp (firstK s) sp, s.dn ++ [(sp, firstK s)]⟩) := Lib.hid rfl
            generalize firstK s = t at *
            obtain ⟨x, hx⟩ := Option.isSome_iff_exists.1 (keysL_mem.1 hmem).2
            have hb31 := HSubi.out t x hx
            have ht31 : t < 31 := hb31.1
            have hx31 : x < 31 := hb31.2
            have HX := Lib.hid hx
            have HKs : Hid ((keysL (del s.fr t)).length + 1 = (keysL s.fr).length) := Lib.hid (keysL_del hmem)
            have HFirst := Lib.hid hfirst
            clear hfo hx hb31 hne hmem hfirst
            go_wp2_with (first | (at_len; refine wpList_len_own _ rfl _ 56 rfl 3 3 Try.underlying56 _ b1 _ _ rfl HO1.out ?_; rw [HSz.out]))
            refine hFr.out.mono ?_; rintro e w2 ⟨rfl, hb2⟩
            have HS2 := Lib.hid (HSt.out.below hb2); have HB2 := Lib.hid (HB.out.trans (hb2.mono HB.out.size))
            have hcq2 := HS2.out.c0
            have HKy := Lib.hid (keys_any b1 n1 D1 s.fr w2 (OwnM.below HO1.out hb2) HM1.out (keys_le31 _))
            clear hb2
            go_wp2_with fail
            refine HKy.out.mono ?_; rintro e w3 ⟨v3, rfl, ⟨ka, kc, rfl, hk3⟩, hb3⟩
            obtain ⟨kb, ko, rfl, hc3⟩ := hk3 0 hpos
            rw [HFirst.out, Nat.add_zero] at hc3
            have hs3 := HS2.out.below hb3
            have HS3 := Lib.hid hs3; have HB3 := Lib.hid (HB2.out.trans (hb3.mono HB2.out.size))
            obtain ⟨da, dc, rfl⟩ := rowAt_form hs3.dn
            have hc32 := hs3.c2
            obtain ⟨j0, hj, hj0, hj1, hj2⟩ := info_parts Try.infoMove
            have hle3 := hs3.le
            clear hb3 hk3 hs3
            go_wp2_with (first
              | (at_builtin; refine wpList_append_own _ rfl _ _ 53 rfl (q + 1) 52 j0 (.agg #[.int .i64 0, .int .i64 0]) 2 16 Try.underlying53 hj hj0 hj1 hj2 rfl (by decide) _ _ _ rfl (HS3.out.dn.alloc _) ⟨w3.heap.size, 0, none⟩ 1 1 [.int .i64 sp, .int .i64 t] rfl rfl (pair_new _ _ _ _) two_one (by unfold maxLen; omega) (by omega) (by simp; omega) ?_; intro v' w4 hown' hgrow _; obtain ⟨va, vc, rfl⟩ := rowAt_form hown'; have hcf := HS3.out.cell2 hgrow; have hc4 := hcf.1; have hf4 := hcf.2; have HA := Lib.hid (HS3.out.append (t := sp) (x := t) hgrow hown'); clear hown' hgrow hcf; have hcq5 := HA.out.1.c1; obtain ⟨n5, D5, hn5, ho5, hm5⟩ := HA.out.1.cp; have HO5 := Lib.hid ho5; have HM5 := Lib.hid hm5; clear ho5 hm5)
              | (at_mapUpdate; refine wpList_mapUpdate_in _ rfl _ _ _ 56 rfl 3 3 intLaw Try.underlying56 _ b2 _ _ rfl HO5.out (by unfold maxLen; omega) _ _ _ rfl rfl (key_nat (by omega)) _ [] (plainElem_int Try.underlying3 (wf_nat (by omega))) ?_; intro w6 hown6 hturn6; have HS6 := Lib.hid (HA.out.1.turn2 hturn6 (MapAt.of hown6 (HM5.out.put (k := t) (y := sp) (by omega) (by omega)))); have HB6 := Lib.hid (turned_below (HB3.out.trans (HA.out.2 _ hwq)) hturn6 (Nat.le_refl _) hwb2); have hcq6 := HS6.out.c0; obtain ⟨n6, D6, hn6, ho6, hm6⟩ := HS6.out.fr; have HO6 := Lib.hid ho6; have HM6 := Lib.hid hm6; clear hown6 hturn6 ho6 hm6)
              | (at_lookup; refine wpList_lookup_own_int _ rfl _ _ 56 rfl 3 3 .i64 intLaw Try.underlying56 Try.underlying3 (zeroInt _) b1 _ _ rfl HO6.out _ _ rfl (key_nat (by omega)) ?_; intro c hat hwc; obtain rfl : c = (x : Int) := (by rw [HM6.out.val t x HX.out] at hat; simpa using hat.symm); clear hat hwc))
            generalize hbs : (⟨s.fr, put s.cp t sp, s.dn ++ [(sp, t)]⟩ : RSt) = bs at *
            have HSx : Hid (OSt w6 q b1 b2 (q + 1) bs (.slice va (s.dn.length + 1) vc)) := HS6
            have HBx := HB6
            have HXb : Hid (bs.fr t = some x) := Lib.hid (by rw [← hbs]; exact HX.out)
            have HKb : Hid (bs.fr = s.fr) := Lib.hid (by rw [← hbs])
            have hdb : bs.dn.length ≤ 100 := by rw [← hbs]; show (s.dn ++ [(sp, t)]).length ≤ 100; rw [List.length_append]; simp only [List.length_cons, List.length_nil]; omega
            rw [HBr.out] at HStep
            refine (move_any q b1 b2 (q + 1) bs _ t x w6 HSx.out (by omega) (by omega)).mono ?_; rintro e w14 ⟨rfl, ⟨dv14, h14⟩, hb14⟩
            have HS14 := Lib.hid h14; have HB14 := Lib.hid (HBx.out.trans (hb14 _ hwq))
            have hcq14 := h14.c0
            obtain ⟨n14, D14, hn14, ho14, hm14⟩ := h14.fr
            have HO14 := Lib.hid ho14; have HM14 := Lib.hid hm14
            clear h14 hb14 ho14 hm14
            cases hcp : bs.cp x with
            | none =>
              have HCp := Lib.hid hcp
              have HMv := Lib.hid (moveS_none HXb.out hcp)
              clear hcp
              go_wp2_with (first | (at_delete; refine wpList_delete_own _ rfl _ _ 56 3 rfl 3 intLaw Try.underlying56 _ b1 _ _ rfl HO14.out _ _ rfl (key_nat (by omega)) ?_; intro w15 hown15 hturn15; have HS15 := Lib.hid (HS14.out.turn1 hturn15 (MapAt.of hown15 (HM14.out.del (k := t) (by show (bs.fr t).isSome = true; rw [HXb.out]; rfl)))); have HB15 := Lib.hid (turned_below HB14.out hturn15 (Nat.le_refl _) hwb1); have hcq15 := HS15.out.c1; obtain ⟨n15, D15, hn15, ho15, hm15⟩ := HS15.out.cp; have HO15 := Lib.hid ho15; have HM15 := Lib.hid hm15; have HHas15 : Hid (Maps.has D15 (.int .i64 (x : Int)) = (bs.cp x).isSome) := Lib.hid (has_isSome hm15 x); clear hown15 hturn15 ho15 hm15; rw [HCp.out] at HHas15) | (at_lookup; refine wpList_lookup_own_ok_int _ rfl _ _ 56 rfl 3 3 .i64 intLaw Try.underlying56 Try.underlying3 (zeroInt _) b2 _ _ rfl HO15.out _ _ rfl (key_nat (by omega)) ?_; intro c hat hwc; rw [HHas15.out]; clear hat hwc) | (at_mapUpdate; refine wpList_mapUpdate_in _ rfl _ _ _ 56 rfl 3 3 intLaw Try.underlying56 _ b2 _ _ rfl HO15.out (by unfold maxLen; omega) _ _ _ rfl rfl (key_nat (by omega)) _ [] (plainElem_int Try.underlying3 (wf_nat (by omega))) ?_; intro w16 hown16 hturn16; have HS16 := Lib.hid (HS15.out.turn2 hturn16 (MapAt.of hown16 (HM15.out.put (k := x) (y := t) (by omega) (by omega)))); have HB16 := Lib.hid (turned_below HB15.out hturn16 (Nat.le_refl _) hwb2); clear hown16 hturn16; go_frame))
              go_roundw
              case rel => exact ⟨i + 1, _, by omega, by rw [HStep.out, HMv.out]; exact HS16.out, HB16.out⟩
              case measure =>
                have h1 : mapSize w16 b1 = (keysL (del bs.fr t)).length := HS16.out.fr.size
                rw [HKb.out] at h1
                have h2 := HKs.out; have h3 := HMs.out; omega
            | some y =>
              have HCp := Lib.hid hcp
              have HMv := Lib.hid (moveS_some HXb.out hcp)
              clear hcp
              go_wp2_with (first | (at_delete; refine wpList_delete_own _ rfl _ _ 56 3 rfl 3 intLaw Try.underlying56 _ b1 _ _ rfl HO14.out _ _ rfl (key_nat (by omega)) ?_; intro w15 hown15 hturn15; have HS15 := Lib.hid (HS14.out.turn1 hturn15 (MapAt.of hown15 (HM14.out.del (k := t) (by show (bs.fr t).isSome = true; rw [HXb.out]; rfl)))); have HB15 := Lib.hid (turned_below HB14.out hturn15 (Nat.le_refl _) hwb1); have hcq15 := HS15.out.c1; obtain ⟨n15, D15, hn15, ho15, hm15⟩ := HS15.out.cp; have HO15 := Lib.hid ho15; have HM15 := Lib.hid hm15; have HHas15 : Hid (Maps.has D15 (.int .i64 (x : Int)) = (bs.cp x).isSome) := Lib.hid (has_isSome hm15 x); clear hown15 hturn15 ho15 hm15; rw [HCp.out] at HHas15) | (at_lookup; refine wpList_lookup_own_ok_int _ rfl _ _ 56 rfl 3 3 .i64 intLaw Try.underlying56 Try.underlying3 (zeroInt _) b2 _ _ rfl HO15.out _ _ rfl (key_nat (by omega)) ?_; intro c hat hwc; rw [HHas15.out]; clear hat hwc))
              go_roundw
              case rel => exact ⟨i + 1, _, by omega, by rw [HStep.out, HMv.out]; exact HS15.out, HB15.out⟩
              case measure =>
                have h1 : mapSize w15 b1 = (keysL (del bs.fr t)).length := HS15.out.fr.size
                rw [HKb.out] at h1
                have h2 := HKs.out; have h3 := HMs.out; omega
        · obtain rfl : i = N := by omega
          have hz : (keysL (iterS sp S0 i).fr).length = 0 := by omega
          obtain ⟨da, dc, rfl⟩ := rowAt_form HSt.out.dn
          have HPs := Lib.hid (pairSl_of_owns HSt.out.dn)
          have hcq2 := HSt.out.c2
          rw [hz] at HSz
          clear hkey
          go_wp2_with (first | (at_len; refine wpList_len_own _ rfl _ 56 rfl 3 3 Try.underlying56 _ b1 _ _ rfl HO1.out ?_; rw [HSz.out]))
          go_ret
          exact ⟨_, rfl, by rw [← HRow.out]; exact HPs.out, HB.out⟩
end Go.Proofs.Ytjfpaelmcepidaa
