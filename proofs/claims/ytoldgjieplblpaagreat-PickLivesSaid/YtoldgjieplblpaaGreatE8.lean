/- The small machine: one operation of a region. -/
import Derived.Test.YtoldgjieplblpaaGreatE7
namespace Go.Proofs.YtoldgjieplblpaaGreat.Mini
open Go.RowKit

variable {P : Program} {B : Nat}
theorem indexAddrK_got {t : TypeId} {p q : MV} {k : MV → Prg} {H : Heap} {c : Nat} {l : Log} {out : MV × Heap × Nat × Log} (h : run (indexAddrK P t p q k) H c l = some out) :
    Got k out fun m H' => H' = H ∧ ∀ x w u v, Rnd x p u → Rnd x q v → ∃ r, (Instr.indexAt t u v).run P w = .ok r w ∧ Rnd x m r := by
  unfold indexAddrK at h
  split at h
  · rename_i n off len cp
    split at h
    · rename_i e i he
      obtain ⟨hu, hi⟩ := elemInfo_spec he
      obtain ⟨ty, j, rfl, hj, h2⟩ := idxK_got h
      simp only [forceN_eq] at h2
      refine ⟨_, _, _, _, h2, rfl, fun x w u v hp hq => ?_⟩
      rw [hq.v_eq]
      cases hp with
      | sl hL hc =>
        rename_i L
        refine ⟨.pointer (some ⟨L.b, L.s + (off + j * i.size), none⟩), ?_, .ptr hL⟩
        have hc1 : (0 : Int) ≤ (j : Int) ∧ (j : Int) < (len : Int) := ⟨Int.natCast_nonneg j, Int.ofNat_lt.2 hj⟩
        simp [Instr.indexAt, run_underlying hu, asIntOf, hj, sizeOf, typeInfo, hi, Addr.add_mid, Nat.add_assoc]
    · exact (not_fail h).elim
  · rename_i n off
    split at h
    · rename_i len e hu
      split at h
      · rename_i i hi
        obtain ⟨ty, j, rfl, hj, h2⟩ := idxK_got h
        simp only [forceN_eq] at h2
        refine ⟨_, _, _, _, h2, rfl, fun x w u v hp hq => ?_⟩
        rw [hq.v_eq]
        cases hp with
        | ptr hL =>
          rename_i L
          refine ⟨.pointer (some ⟨L.b, L.s + (off + j * i.size), none⟩), ?_, .ptr hL⟩
          simp [Instr.indexAt, Instr.sureAddr, run_underlying hu, asIntOf, hj, sizeOf, typeInfo, hi, Addr.add_mid, Nat.add_assoc]
      · exact (not_fail h).elim
    · exact (not_fail h).elim
  · exact (not_fail h).elim
theorem fieldAddrK_got {t : TypeId} {p : MV} {f : Nat} {k : MV → Prg} {H : Heap} {c : Nat} {l : Log} {out : MV × Heap × Nat × Log} (h : run (fieldAddrK P t p f k) H c l = some out) :
    Got k out fun m H' => H' = H ∧ ∀ x w u, Rnd x p u → ∃ r, (Instr.fieldAt t u f).run P w = .ok r w ∧ Rnd x m r := by
  unfold fieldAddrK at h
  split at h
  · rename_i n off
    split at h
    · rename_i fs hu
      split at h
      · rename_i fd hfd
        split at h
        · rename_i i hi
          split at h
          · rename_i h1
            have h1 := ble_le h1
            simp only [forceN_eq] at h
            refine ⟨_, _, _, _, h, rfl, fun x w u hp => ?_⟩
            cases hp with
            | ptr hL =>
              rename_i L
              refine ⟨.pointer (some ⟨L.b, L.s + (off + fd.offset), none⟩), ?_, .ptr hL⟩
              have h0 : ¬ i.size = 0 := by omega
              simp [Instr.fieldAt, run_underlying hu, hfd, Instr.sureAddr, fieldPlace, sizeOf, typeInfo, hi, h0, Addr.add_mid, Nat.add_assoc]
          · exact (not_fail h).elim
        · exact (not_fail h).elim
      · exact (not_fail h).elim
    · exact (not_fail h).elim
  · exact (not_fail h).elim
theorem partK_got {t : TypeId} {cs : List MV} {off : Nat} {k : MV → Prg} {H : Heap} {c : Nat} {l : Log} {out : MV × Heap × Nat × Log} (h : run (partK P t cs off k) H c l = some out) :
    Got k out fun m H' => H' = H ∧ ∀ x w (a : Array Value), Rnds x cs a.toList → ∃ r, (part t a off).run P w = .ok r w ∧ Rnd x m r := by
  have one : ∀ (b : isAggB P t = some false) (m : MV), cs[off]? = some m → run (k m) H c l = some out → Got k out fun m H' => H' = H ∧ ∀ x w (a : Array Value), Rnds x cs a.toList → ∃ r, (part t a off).run P w = .ok r w ∧ Rnd x m r := by
    intro b m hm h
    refine ⟨_, _, _, _, h, rfl, fun x w a ha => ?_⟩
    obtain ⟨v, h1, h2⟩ := ha.get off m hm
    refine ⟨v, ?_, h2⟩
    have h1' : a[off]? = some v := by simpa using h1
    simp [part, isAgg_run b, h1']
  unfold partK at h
  split at h
  · rename_i b
    split at h
    · rename_i i hi
      rw [strictK_eq] at h
      refine ⟨_, _, _, _, h, rfl, fun x w a ha => ⟨.agg (a.extract off (off + i.size)), ?_, ?_⟩⟩
      · simp [part, isAgg_run b, sizeOf, typeInfo, hi]
      · have e : (a.extract off (off + i.size)) = ((a.toList.drop off).take i.size).toArray := by
          apply Array.ext'
          simp
        rw [e]
        exact .agg ((ha.drop off).take i.size)
    · exact (not_fail h).elim
  · rename_i b
    split at h
    · rename_i hm; exact one b _ hm h
    · rename_i hm; exact one b _ hm h
    · rename_i hm; exact one b _ hm h
    · rename_i hm; exact one b _ hm h
    · rename_i hm; exact one b _ hm h
    · rename_i hm; exact one b _ hm h
    · exact (not_fail h).elim
  · exact (not_fail h).elim
theorem agg_spec {x : Env} {m : MV} {v : Value} {cs : List MV} (h : m.agg? = some cs) (hv : Rnd x m v) : ∃ a : Array Value, v = .agg a ∧ Rnds x cs a.toList := by
  unfold MV.agg? at h
  split at h
  · cases h; cases hv; exact ⟨_, rfl, by simpa⟩
  · cases h; exact ⟨_, hv.v_eq, Rnds.plain x _⟩
  · cases h
theorem fieldK_got {t : TypeId} {p : MV} {f : Nat} {k : MV → Prg} {H : Heap} {c : Nat} {l : Log} {out : MV × Heap × Nat × Log} (h : run (fieldK P t p f k) H c l = some out) :
    Got k out fun m H' => H' = H ∧ ∀ x w u, Rnd x p u → ∃ r, (Instr.field t u f).run P w = .ok r w ∧ Rnd x m r := by
  unfold fieldK at h
  split at h
  · rename_i fs hu
    split at h
    · rename_i fd cs hfd hcs
      refine (partK_got h).mono fun m H' ⟨e, hm⟩ => ⟨e, fun x w u hp => ?_⟩
      obtain ⟨a, rfl, ha⟩ := agg_spec hcs hp
      obtain ⟨r, h1, h2⟩ := hm x w a ha
      exact ⟨r, by simp [Instr.field, run_underlying hu, hfd, asAgg, h1], h2⟩
    · exact (not_fail h).elim
  · exact (not_fail h).elim
theorem indexK_got {t : TypeId} {p q : MV} {k : MV → Prg} {H : Heap} {c : Nat} {l : Log} {out : MV × Heap × Nat × Log} (h : run (indexK P t p q k) H c l = some out) :
    Got k out fun m H' => H' = H ∧ ∀ x w u v, Rnd x p u → Rnd x q v → ∃ r, (Instr.index t u v).run P w = .ok r w ∧ Rnd x m r := by
  unfold indexK at h
  split at h
  · split at h
    · obtain ⟨m, H', c', l', h4, e, r, em, hr⟩ := pureK_got h
      exact ⟨m, H', c', l', h4, e, fun x w u v hu hv => ⟨r, by rw [hu.v_eq, hv.v_eq]; exact hr w, by rw [em]; exact .v r⟩⟩
    · exact (not_fail h).elim
  · rename_i len e hu
    split at h
    · rename_i i cs hi hcs
      obtain ⟨ty, j, rfl, hj, h2⟩ := idxK_got h
      refine (partK_got h2).mono fun m H' ⟨e, hm⟩ => ⟨e, fun x w u v hp hq => ?_⟩
      rw [hq.v_eq]
      obtain ⟨a, rfl, ha⟩ := agg_spec hcs hp
      obtain ⟨r, h1, h3⟩ := hm x w a ha
      exact ⟨r, by simp [Instr.index, run_underlying hu, asIntOf, hj, sizeOf, typeInfo, hi, h1], h3⟩
    · exact (not_fail h).elim
  · exact (not_fail h).elim
theorem whnfK_eq (m : MV) (k : MV → Prg) : whnfK m k = k m := by cases m <;> rfl
theorem extractK_got {p : MV} {f : Nat} {k : MV → Prg} {H : Heap} {c : Nat} {l : Log} {out : MV × Heap × Nat × Log} (h : run (extractK P p f k) H c l = some out) :
    Got k out fun m H' => H' = H ∧ ∀ x w u, Rnd x p u → ∃ r, (Instr.extract u f).run P w = .ok r w ∧ Rnd x m r := by
  unfold extractK at h
  split at h
  · rename_i vs
    split at h
    · rename_i m hm
      rw [whnfK_eq] at h
      refine ⟨_, _, _, _, h, rfl, fun x w u hp => ?_⟩
      cases hp with
      | tup hs =>
        obtain ⟨v, h1, h2⟩ := hs.get f m hm
        exact ⟨v, by simp [Instr.extract, h1], h2⟩
    · exact (not_fail h).elim
  · obtain ⟨m, H', c', l', h4, e, r, em, hr⟩ := pureK_got h
    exact ⟨m, H', c', l', h4, e, fun x w u hu => ⟨r, by rw [hu.v_eq]; exact hr w, by rw [em]; exact .v r⟩⟩
  · exact (not_fail h).elim

/-! ### The built-in functions -/
theorem builtinK_got {b : Builtin} {ts : Array TypeId} {ty : TypeId} {args : List MV} {k : MV → Prg} {H : Heap} {c : Nat} {l : Log} {out : MV × Heap × Nat × Log} (h : run (builtinK P b ts ty args k) H c l = some out) :
    Got k out fun m H' => ∀ x w vs, Rel B x H w → Rnds x args vs → ∃ r w', (∀ cons, (builtin b ts ty cons vs.toArray).run P w = .ok (.value r) w') ∧ Post B x H' m w r w' := by
  unfold builtinK at h
  split at h
  · split at h
    · refine (lenK_got h).mono fun m H' ⟨e, hm⟩ x w vs hR hvs => ?_
      subst e
      cases hvs with
      | cons h1 hs =>
        cases hs
        obtain ⟨r, h2, h3⟩ := hm x w _ h1
        exact ⟨r, w, fun cons => by simp [builtin, h2], Post.still hR h3⟩
    · exact (not_fail h).elim
  · split at h
    · refine (capBK_got h).mono fun m H' ⟨e, hm⟩ x w vs hR hvs => ?_
      subst e
      cases hvs with
      | cons h1 hs =>
        cases hs
        obtain ⟨r, h2, h3⟩ := hm x w _ h1
        exact ⟨r, w, fun cons => by simp [builtin, h2], Post.still hR h3⟩
    · exact (not_fail h).elim
  · split at h
    · rename_i s y t ht
      obtain ⟨tx, htx, hg⟩ := appendK_got (B := B) h
      refine hg.mono fun m H' hm x w vs hR hvs => ?_
      cases hvs with
      | cons h1 hs =>
        cases hs with
        | cons h2 hs =>
          cases hs
          rename_i u v
          obtain ⟨r, w', h3, h4⟩ := hm x w ty u v hR h1 h2
          refine ⟨r, w', fun cons => ?_, h4⟩
          have e : (Builtin.append_ ts ty #[u, v]) = Builtin.append_ #[t, tx] ty #[u, v] := by simp [Builtin.append_, ht, htx]
          show (do pure (Next.value (← Builtin.append_ ts ty #[u, v])) : Sem Next).run P w = _
          rw [e]
          simp [h3]
    · exact (not_fail h).elim
  · split at h
    · rename_i s y t ht
      refine (copyK_got (B := B) h).mono fun m H' hm x w vs hR hvs => ?_
      cases hvs with
      | cons h1 hs =>
        cases hs with
        | cons h2 hs =>
          cases hs
          obtain ⟨r, w', h3, h4⟩ := hm x w ts ty _ _ ht hR h1 h2
          exact ⟨r, w', fun cons => by simp [builtin, h3], h4⟩
    · exact (not_fail h).elim
  · split at h
    · rename_i s t ht
      refine (clearK_got (B := B) h).mono fun m H' hm x w vs hR hvs => ?_
      cases hvs with
      | cons h1 hs =>
        cases hs
        obtain ⟨r, w', h3, h4⟩ := hm x w ts ty _ ht hR h1
        exact ⟨r, w', fun cons => by simp [builtin, h3], h4⟩
    · exact (not_fail h).elim
  · split at h
    · rename_i xs hxs
      obtain ⟨m, H', c', l', h4, e, r, em, hr⟩ := pureK_got h
      subst e
      refine ⟨m, H', c', l', h4, fun x w vs hR hvs => ⟨r, w, fun cons => ?_, by rw [em]; exact Post.still hR (.v r)⟩⟩
      rw [plains_spec hxs hvs]
      simp [builtin, hr w]
    · exact (not_fail h).elim
  · split at h
    · rename_i xs hxs
      obtain ⟨m, H', c', l', h4, e, r, em, hr⟩ := pureK_got h
      subst e
      refine ⟨m, H', c', l', h4, fun x w vs hR hvs => ⟨r, w, fun cons => ?_, by rw [em]; exact Post.still hR (.v r)⟩⟩
      rw [plains_spec hxs hvs]
      simp [builtin, hr w]
    · exact (not_fail h).elim
  · exact (not_fail h).elim
end Go.Proofs.YtoldgjieplblpaaGreat.Mini
