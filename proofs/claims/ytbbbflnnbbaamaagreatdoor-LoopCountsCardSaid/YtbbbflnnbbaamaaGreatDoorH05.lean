/- Packed of several texts. -/
import Derived.Test.YtbbbflnnbbaamaaGreatDoorH04
import Derived.MapKept
import Derived.RangeFuncRecord
namespace Go.Proofs.YtbbbflnnbbaamaaGreatDoor.Mini
open Go.RowKit

variable {P : Program} {B : Nat}
theorem copyK_got {t : TypeId} {p q : MV} {k : MV → Prg} {H : Heap} {c : Nat} {l : Log} {out : MV × Heap × Nat × Log} (h : run (copyK P t p q k) H c l = some out) :
  Got k out fun m H' => ∀ x w ts ty u v, ts[0]? = some t → Rel B x H w → Rnd x p u → Rnd x q v → ∃ r w', (Builtin.copy_ ts ty #[u, v]).run P w = .ok r w' ∧ Post B x H' m w r w' := by
 unfold copyK at h
 split at h
 ·rename_i e i he
  obtain ⟨hu, hi⟩ := elemInfo_spec he
  split at h
  ·obtain ⟨n, new, l1, h2, hlen, hold⟩ := content_got (P := P) (B := B) h
   refine ⟨_, _, _, _, h2, fun x w ts ty u v ht hR hu' hv' => ?_⟩
   obtain ⟨vs, k1, k2, k3, k4⟩ := hold x w v hR hv'
   rw [hu'.v_eq]
   refine ⟨.int .i64 0, w, ?_, Post.still hR (.v _)⟩
   have h0 := k3 w 0 rfl (Nat.zero_le _)
   simp [Builtin.copy_, ht, run_underlying hu, sizeOf, typeInfo, hi, k2, h0, goInt]
  ·obtain ⟨n, new, l1, h2, hlen, hold⟩ := content_got (P := P) (B := B) h
   refine ⟨_, _, _, _, h2, fun x w ts ty u v ht hR hu' hv' => ?_⟩
   obtain ⟨vs, k1, k2, k3, k4⟩ := hold x w v hR hv'
   cases hu' with
   | emp a cp =>
    refine ⟨.int .i64 0, w, ?_, Post.still hR (.v _)⟩
    have h0 := k3 w 0 rfl (Nat.zero_le _)
    simp [Builtin.copy_, ht, run_underlying hu, sizeOf, typeInfo, hi, k2, h0, goInt, storeCells]
  ·rename_i m off len cp
   obtain ⟨n, new, l1, h2, hlen, hold⟩ := content_got (P := P) (B := B) h
   simp only [forceN_eq] at h2
   unfold run at h2
   split at h2
   ·rename_i r hr
    obtain ⟨s1, s2, H', l', s3, s4⟩ := storeCells_got (B := B) h2 hr
    refine ⟨_, _, _, _, s3, fun x w ts ty u v ht hR hu' hv' => ?_⟩
    obtain ⟨vs, k1, k2, k3, k4⟩ := hold x w v hR hv'
    cases hu' with
    | sl hL hc =>
     rename_i L
     obtain ⟨L', e1, e2, e3, e4, e5, e6, e7⟩ := s4 x w _ hR (k1.take (Nat.min n len * i.size))
     rw [hL] at e1; cases e1
     have hf := k3 w (Nat.min n len) rfl (Nat.min_le_left _ _)
     have hst := run_cells_at (P := P) e5 e6 e7
     refine ⟨.int .i64 (Nat.min n len : Nat), _, ?_, x, Env.le_refl x, e3, .v _, e4⟩
     simp [Builtin.copy_, ht, run_underlying hu, sizeOf, typeInfo, hi, k2, hf, goInt, hst]
   ·cases h2
  ·exact (not_fail h).elim
 ·exact (not_fail h).elim
theorem clearK_got {t : TypeId} {p : MV} {k : MV → Prg} {H : Heap} {c : Nat} {l : Log} {out : MV × Heap × Nat × Log} (h : run (clearK P t p k) H c l = some out) :
  Got k out fun m H' => ∀ x w ts ty u, ts[0]? = some t → Rel B x H w → Rnd x p u → ∃ r w', (Builtin.clear_ ts ty #[u]).run P w = .ok r w' ∧ Post B x H' m w r w' := by
 unfold clearK at h
 split at h
 ·rename_i e i he
  obtain ⟨hu, hi⟩ := elemInfo_spec he
  split at h
  ·refine ⟨_, _, _, _, h, fun x w ts ty u ht hR hu' => ?_⟩
   rw [hu'.v_eq]
   refine ⟨.tuple #[], w, ?_, Post.still hR (.v _)⟩
   simp [Builtin.clear_, ht, run_underlying hu]
  ·rename_i m off len cp
   split at h
   ·rename_i z hz
    unfold run at h
    split at h
    ·rename_i r hr
     obtain ⟨s1, s2, H', l', s3, s4⟩ := storeCells_got (B := B) h hr
     refine ⟨_, _, _, _, s3, fun x w ts ty u ht hR hu' => ?_⟩
     cases hu' with
     | sl hL hc =>
      rename_i L
      obtain ⟨L', e1, e2, e3, e4, e5, e6, e7⟩ := s4 x w _ hR (zeroL_rnds x z.cells (len * z.cells.size))
      rw [hL] at e1; cases e1
      have hst := run_cells_at (P := P) e5 e6 e7
      refine ⟨.tuple #[], _, ?_, x, Env.le_refl x, e3, .v _, e4⟩
      have hz0 : Builtin.zeroCells z.cells len = (Array.range (len * z.cells.size)).map (z.cells[· % z.cells.size]!) := rfl
      rw [← hz0] at hst ⊢
      cases len with
      | zero =>
       have : (Builtin.zeroCells z.cells 0).toList = [] := by simp [Builtin.zeroCells]
       rw [this]
       simp [Builtin.clear_, ht, run_underlying hu, World.setCells]
      | succ len => simp [Builtin.clear_, ht, run_underlying hu, zeroValue, typeInfo, hi, hz, hst]
    ·cases h
   ·exact (not_fail h).elim
  ·exact (not_fail h).elim
 ·exact (not_fail h).elim
theorem lenK_got {ts : Array TypeId} {ty : TypeId} {p : MV} {k : MV → Prg} {H : Heap} {c : Nat} {l : Log} {out : MV × Heap × Nat × Log} (h : run (lenK P ts ty p k) H c l = some out) :
  Got k out fun m H' => H' = H ∧ ∀ x w u, Rnd x p u → ∃ r, (Builtin.len_ ts ty #[u]).run P w = .ok r w ∧ Rnd x m r := by
 unfold lenK at h
 split at h
 ·obtain ⟨m, H', c', l', h4, e, r, em, hr⟩ := pureK_got h
  exact ⟨m, H', c', l', h4, e, fun x w u hu => ⟨r, by rw [hu.v_eq]; exact hr w, by rw [em]; exact .v r⟩⟩
 ·split at h
  ·rename_i e he
   obtain ⟨t, ht, hu⟩ := Option.bind_eq_some_iff.1 he
   refine ⟨_, _, _, _, h, rfl, fun x w u hr => ?_⟩
   cases hr with
   | sl hL hc => exact ⟨_, by simp [Builtin.len_, ht, run_underlying hu, goInt], .v _⟩
  ·exact (not_fail h).elim
 ·split at h
  ·rename_i e he
   obtain ⟨t, ht, hu⟩ := Option.bind_eq_some_iff.1 he
   refine ⟨_, _, _, _, h, rfl, fun x w u hr => ?_⟩
   cases hr with
   | emp a cp => exact ⟨_, by simp [Builtin.len_, ht, run_underlying hu, goInt], .v _⟩
  ·exact (not_fail h).elim
 ·exact (not_fail h).elim
theorem capBK_got {ts : Array TypeId} {ty : TypeId} {p : MV} {k : MV → Prg} {H : Heap} {c : Nat} {l : Log} {out : MV × Heap × Nat × Log} (h : run (capBK P ts ty p k) H c l = some out) :
  Got k out fun m H' => H' = H ∧ ∀ x w u, Rnd x p u → ∃ r, (Builtin.cap_ ts ty #[u]).run P w = .ok r w ∧ Rnd x m r := by
 unfold capBK at h
 split at h
 ·obtain ⟨m, H', c', l', h4, e, r, em, hr⟩ := pureK_got h
  exact ⟨m, H', c', l', h4, e, fun x w u hu => ⟨r, by rw [hu.v_eq]; exact hr w, by rw [em]; exact .v r⟩⟩
 ·split at h
  ·rename_i e he
   obtain ⟨t, ht, hu⟩ := Option.bind_eq_some_iff.1 he
   refine ⟨_, _, _, _, h, rfl, fun x w u hr => ?_⟩
   cases hr with
   | sl hL hc => exact ⟨_, by simp [Builtin.cap_, ht, run_underlying hu, goInt, Cap.val], .v _⟩
  ·exact (not_fail h).elim
 ·exact (not_fail h).elim
theorem plains_spec {x : Env} : ∀ {ms : List MV} {vs us : List Value}, plains ms = some us → Rnds x ms vs → vs = us
 | _, _, us, h, .nil => by simp only [plains, Option.some.injEq] at h; exact h
 | m :: ms, _, us, h, .cons hm hs => by
  cases m with
  | v y =>
   unfold plains at h
   cases hp : plains ms with
   | none => rw [hp] at h; cases h
   | some xs =>
    rw [hp] at h
    cases h
    rw [hm.v_eq, plains_spec hp hs]
  | _ => cases h
theorem eql_got {op : BinOp} {k : MV → Prg} {H : Heap} {c : Nat} {l : Log} {out : MV × Heap × Nat × Log} (h : run (eqlK op k) H c l = some out) : (op = .eql ∧ run (k (.v (.bool false))) H c l = some out) ∨ (op = .neq ∧ run (k (.v (.bool true))) H c l = some out) := by
 unfold eqlK at h
 split at h
 ·exact .inl ⟨rfl, h⟩
 ·exact .inr ⟨rfl, h⟩
 ·exact (not_fail h).elim
theorem eql_post {op : BinOp} {t : TypeId} {xo yo : Operand} {k : MV → Prg} {H : Heap} {c : Nat} {l : Log} {out : MV × Heap × Nat × Log} {p q : MV} (h : run (eqlK op k) H c l = some out)
  (he : ∀ (x : Env) (w : World) (u v : Value), Rnd x p u → Rnd x q v → (∀ o, o = BinOp.eql ∨ o = BinOp.neq → (eqGuard o t xo yo u v).run P w = .ok () w) ∧ (Op.equal t u v).run P w = .ok false w ∧ ∀ o, o = BinOp.eql ∨ o = BinOp.neq → binOp o t u v = (match o with | .eql => (do pure (.bool (← Op.equal t u v))) | _ => (do pure (.bool (!(← Op.equal t u v)))))) :
  Got k out fun m H' => H' = H ∧ ∀ x w u v, Rnd x p u → Rnd x q v → ∃ r, (do eqGuard op t xo yo u v; binOp op t u v : Sem Value).run P w = .ok r w ∧ Rnd x m r := by
 rcases eql_got h with ⟨rfl, h⟩ | ⟨rfl, h⟩
 ·refine ⟨_, _, _, _, h, rfl, fun x w u v hu hv => ⟨_, ?_, .v _⟩⟩
  obtain ⟨h1, h2, h3⟩ := he x w u v hu hv
  rw [Sem.run_bind, h1 _ (.inl rfl), Result.andThen_ok, h3 _ (.inl rfl)]
  simp [h2]
 ·refine ⟨_, _, _, _, h, rfl, fun x w u v hu hv => ⟨_, ?_, .v _⟩⟩
  obtain ⟨h1, h2, h3⟩ := he x w u v hu hv
  rw [Sem.run_bind, h1 _ (.inr rfl), Result.andThen_ok, h3 _ (.inr rfl)]
  simp [h2]
theorem eq_slice1 (d : Nat) {t e : TypeId} (hu : P.underlying t = some (.slice e)) (a : Addr) (l c l' c' : Nat) (w : World) : (Op.equalIn (d + 1) t (.slice (some a) l c) (.slice none l' c')).run P w = .ok false w := by simp [Op.equalIn, run_underlying hu]
theorem eq_slice2 (d : Nat) {t e : TypeId} (hu : P.underlying t = some (.slice e)) (a : Addr) (l c l' c' : Nat) (w : World) : (Op.equalIn (d + 1) t (.slice none l' c') (.slice (some a) l c)).run P w = .ok false w := by simp [Op.equalIn, run_underlying hu]
theorem eq_ptr1 (d : Nat) {t e : TypeId} (hu : P.underlying t = some (.pointer e)) (a : Addr) (w : World) : (Op.equalIn (d + 1) t (.pointer (some a)) (.pointer none)).run P w = .ok false w := by simp [Op.equalIn, run_underlying hu]
theorem eq_ptr2 (d : Nat) {t e : TypeId} (hu : P.underlying t = some (.pointer e)) (a : Addr) (w : World) : (Op.equalIn (d + 1) t (.pointer none) (.pointer (some a))).run P w = .ok false w := by simp [Op.equalIn, run_underlying hu]
theorem binK_got {op : BinOp} {t : TypeId} {xo yo : Operand} {p q : MV} {k : MV → Prg} {H : Heap} {c : Nat} {l : Log} {out : MV × Heap × Nat × Log} (h : run (binK P op t xo yo p q k) H c l = some out) :
  Got k out fun m H' => H' = H ∧ ∀ x w u v, Rnd x p u → Rnd x q v → ∃ r, (do eqGuard op t xo yo u v; binOp op t u v : Sem Value).run P w = .ok r w ∧ Rnd x m r := by
 unfold binK at h
 split at h
 ·obtain ⟨m, H', c', l', h4, e, r, em, hr⟩ := pureK_got h
  exact ⟨m, H', c', l', h4, e, fun x w u v hu hv => ⟨r, by rw [hu.v_eq, hv.v_eq]; exact hr w, by rw [em]; exact .v r⟩⟩
 ·split at h
  ·rename_i e hu
   refine eql_post h fun x w u v hp hq => ?_
   rw [hq.v_eq]
   cases hp
   refine ⟨fun o ho => ?_, eq_slice1 9999 hu _ _ _ _ _ w, fun o ho => ?_⟩ <;> rcases ho with rfl | rfl <;> simp [eqGuard, binOp]
  ·exact (not_fail h).elim
 ·split at h
  ·rename_i e hu
   refine eql_post h fun x w u v hp hq => ?_
   rw [hp.v_eq]
   cases hq
   refine ⟨fun o ho => ?_, eq_slice2 9999 hu _ _ _ _ _ w, fun o ho => ?_⟩ <;> rcases ho with rfl | rfl <;> simp [eqGuard, binOp]
  ·exact (not_fail h).elim
 ·split at h
  ·rename_i e hu
   refine eql_post h fun x w u v hp hq => ?_
   rw [hq.v_eq]
   cases hp
   refine ⟨fun o ho => ?_, eq_slice1 9999 hu _ _ _ _ _ w, fun o ho => ?_⟩ <;> rcases ho with rfl | rfl <;> simp [eqGuard, binOp]
  ·exact (not_fail h).elim
 ·split at h
  ·rename_i e hu
   refine eql_post h fun x w u v hp hq => ?_
   rw [hp.v_eq]
   cases hq
   refine ⟨fun o ho => ?_, eq_slice2 9999 hu _ _ _ _ _ w, fun o ho => ?_⟩ <;> rcases ho with rfl | rfl <;> simp [eqGuard, binOp]
  ·exact (not_fail h).elim
 ·split at h
  ·rename_i e hu
   refine eql_post h fun x w u v hp hq => ?_
   rw [hq.v_eq]
   cases hp
   refine ⟨fun o ho => ?_, eq_ptr1 9999 hu _ w, fun o ho => ?_⟩ <;> rcases ho with rfl | rfl <;> simp [eqGuard, binOp]
  ·exact (not_fail h).elim
 ·split at h
  ·rename_i e hu
   refine eql_post h fun x w u v hp hq => ?_
   rw [hp.v_eq]
   cases hq
   refine ⟨fun o ho => ?_, eq_ptr2 9999 hu _ w, fun o ho => ?_⟩ <;> rcases ho with rfl | rfl <;> simp [eqGuard, binOp]
  ·exact (not_fail h).elim
 ·exact (not_fail h).elim
end Go.Proofs.YtbbbflnnbbaamaaGreatDoor.Mini
namespace Go.Proofs.YtbbbflnnbbaamaaGreatDoor.Mini
open Go.RowKit

variable {P : Program} {B : Nat}
theorem indexAddrK_got {t : TypeId} {p q : MV} {k : MV → Prg} {H : Heap} {c : Nat} {l : Log} {out : MV × Heap × Nat × Log} (h : run (indexAddrK P t p q k) H c l = some out) :
  Got k out fun m H' => H' = H ∧ ∀ x w u v, Rnd x p u → Rnd x q v → ∃ r, (Instr.indexAt t u v).run P w = .ok r w ∧ Rnd x m r := by
 unfold indexAddrK at h
 split at h
 ·rename_i n off len cp
  split at h
  ·rename_i e i he
   obtain ⟨hu, hi⟩ := elemInfo_spec he
   obtain ⟨ty, j, rfl, hj, h2⟩ := idxK_got h
   simp only [forceN_eq] at h2
   refine ⟨_, _, _, _, h2, rfl, fun x w u v hp hq => ?_⟩
   rw [hq.v_eq]
   cases hp with
   | sl hL hc =>
    rename_i L
    refine ⟨.pointer (some ⟨L.b, L.s + (off + j * i.size), none⟩), ?_, .ptr hL⟩
    have hc1 : (0 : Int) ≤ (j : Int) ∧ (j : Int) < (len : Int) := ⟨Int.natCast_nonneg j, Int.ofNat_lt.2 hj⟩
    simp [Instr.indexAt, run_underlying hu, asIntOf, hj, sizeOf, typeInfo, hi, Addr.add_mid, Nat.add_assoc]
  ·exact (not_fail h).elim
 ·rename_i n off
  split at h
  ·rename_i len e hu
   split at h
   ·rename_i i hi
    obtain ⟨ty, j, rfl, hj, h2⟩ := idxK_got h
    simp only [forceN_eq] at h2
    refine ⟨_, _, _, _, h2, rfl, fun x w u v hp hq => ?_⟩
    rw [hq.v_eq]
    cases hp with
    | ptr hL =>
     rename_i L
     refine ⟨.pointer (some ⟨L.b, L.s + (off + j * i.size), none⟩), ?_, .ptr hL⟩
     simp [Instr.indexAt, Instr.sureAddr, run_underlying hu, asIntOf, hj, sizeOf, typeInfo, hi, Addr.add_mid, Nat.add_assoc]
   ·exact (not_fail h).elim
  ·exact (not_fail h).elim
 ·exact (not_fail h).elim
theorem fieldAddrK_got {t : TypeId} {p : MV} {f : Nat} {k : MV → Prg} {H : Heap} {c : Nat} {l : Log} {out : MV × Heap × Nat × Log} (h : run (fieldAddrK P t p f k) H c l = some out) :
  Got k out fun m H' => H' = H ∧ ∀ x w u, Rnd x p u → ∃ r, (Instr.fieldAt t u f).run P w = .ok r w ∧ Rnd x m r := by
 unfold fieldAddrK at h
 split at h
 ·rename_i n off
  split at h
  ·rename_i fs hu
   split at h
   ·rename_i fd hfd
    split at h
    ·rename_i i hi
     split at h
     ·rename_i h1
      have h1 := ble_le h1
      simp only [forceN_eq] at h
      refine ⟨_, _, _, _, h, rfl, fun x w u hp => ?_⟩
      cases hp with
      | ptr hL =>
       rename_i L
       refine ⟨.pointer (some ⟨L.b, L.s + (off + fd.offset), none⟩), ?_, .ptr hL⟩
       have h0 : ¬ i.size = 0 := by omega
       simp [Instr.fieldAt, run_underlying hu, hfd, Instr.sureAddr, fieldPlace, sizeOf, typeInfo, hi, h0, Addr.add_mid, Nat.add_assoc]
     ·exact (not_fail h).elim
    ·exact (not_fail h).elim
   ·exact (not_fail h).elim
  ·exact (not_fail h).elim
 ·exact (not_fail h).elim
theorem partK_got {t : TypeId} {cs : List MV} {off : Nat} {k : MV → Prg} {H : Heap} {c : Nat} {l : Log} {out : MV × Heap × Nat × Log} (h : run (partK P t cs off k) H c l = some out) :
  Got k out fun m H' => H' = H ∧ ∀ x w (a : Array Value), Rnds x cs a.toList → ∃ r, (part t a off).run P w = .ok r w ∧ Rnd x m r := by
 have one : ∀ (b : isAggB P t = some false) (m : MV), cs[off]? = some m → run (k m) H c l = some out → Got k out fun m H' => H' = H ∧ ∀ x w (a : Array Value), Rnds x cs a.toList → ∃ r, (part t a off).run P w = .ok r w ∧ Rnd x m r := by
  intro b m hm h
  refine ⟨_, _, _, _, h, rfl, fun x w a ha => ?_⟩
  obtain ⟨v, h1, h2⟩ := ha.get off m hm
  refine ⟨v, ?_, h2⟩
  have h1' : a[off]? = some v := by simpa using h1
  simp [part, isAgg_run b, h1']
 unfold partK at h
 split at h
 ·rename_i b
  split at h
  ·rename_i i hi
   rw [strictK_eq] at h
   refine ⟨_, _, _, _, h, rfl, fun x w a ha => ⟨.agg (a.extract off (off + i.size)), ?_, ?_⟩⟩
   ·simp [part, isAgg_run b, sizeOf, typeInfo, hi]
   ·have e : (a.extract off (off + i.size)) = ((a.toList.drop off).take i.size).toArray := by
     apply Array.ext'
     simp
    rw [e]
    exact .agg ((ha.drop off).take i.size)
  ·exact (not_fail h).elim
 ·rename_i b
  split at h
  ·rename_i hm; exact one b _ hm h
  ·rename_i hm; exact one b _ hm h
  ·rename_i hm; exact one b _ hm h
  ·rename_i hm; exact one b _ hm h
  ·rename_i hm; exact one b _ hm h
  ·rename_i hm; exact one b _ hm h
  ·exact (not_fail h).elim
 ·exact (not_fail h).elim
theorem agg_spec {x : Env} {m : MV} {v : Value} {cs : List MV} (h : m.agg? = some cs) (hv : Rnd x m v) : ∃ a : Array Value, v = .agg a ∧ Rnds x cs a.toList := by
 unfold MV.agg? at h
 split at h
 ·cases h; cases hv; exact ⟨_, rfl, by simpa⟩
 ·cases h; exact ⟨_, hv.v_eq, Rnds.plain x _⟩
 ·cases h
theorem fieldK_got {t : TypeId} {p : MV} {f : Nat} {k : MV → Prg} {H : Heap} {c : Nat} {l : Log} {out : MV × Heap × Nat × Log} (h : run (fieldK P t p f k) H c l = some out) :
  Got k out fun m H' => H' = H ∧ ∀ x w u, Rnd x p u → ∃ r, (Instr.field t u f).run P w = .ok r w ∧ Rnd x m r := by
 unfold fieldK at h
 split at h
 ·rename_i fs hu
  split at h
  ·rename_i fd cs hfd hcs
   refine (partK_got h).mono fun m H' ⟨e, hm⟩ => ⟨e, fun x w u hp => ?_⟩
   obtain ⟨a, rfl, ha⟩ := agg_spec hcs hp
   obtain ⟨r, h1, h2⟩ := hm x w a ha
   exact ⟨r, by simp [Instr.field, run_underlying hu, hfd, asAgg, h1], h2⟩
  ·exact (not_fail h).elim
 ·exact (not_fail h).elim
theorem indexK_got {t : TypeId} {p q : MV} {k : MV → Prg} {H : Heap} {c : Nat} {l : Log} {out : MV × Heap × Nat × Log} (h : run (indexK P t p q k) H c l = some out) :
  Got k out fun m H' => H' = H ∧ ∀ x w u v, Rnd x p u → Rnd x q v → ∃ r, (Instr.index t u v).run P w = .ok r w ∧ Rnd x m r := by
 unfold indexK at h
 split at h
 ·split at h
  ·obtain ⟨m, H', c', l', h4, e, r, em, hr⟩ := pureK_got h
   exact ⟨m, H', c', l', h4, e, fun x w u v hu hv => ⟨r, by rw [hu.v_eq, hv.v_eq]; exact hr w, by rw [em]; exact .v r⟩⟩
  ·exact (not_fail h).elim
 ·rename_i len e hu
  split at h
  ·rename_i i cs hi hcs
   obtain ⟨ty, j, rfl, hj, h2⟩ := idxK_got h
   refine (partK_got h2).mono fun m H' ⟨e, hm⟩ => ⟨e, fun x w u v hp hq => ?_⟩
   rw [hq.v_eq]
   obtain ⟨a, rfl, ha⟩ := agg_spec hcs hp
   obtain ⟨r, h1, h3⟩ := hm x w a ha
   exact ⟨r, by simp [Instr.index, run_underlying hu, asIntOf, hj, sizeOf, typeInfo, hi, h1], h3⟩
  ·exact (not_fail h).elim
 ·exact (not_fail h).elim
theorem whnfK_eq (m : MV) (k : MV → Prg) : whnfK m k = k m := by cases m <;> rfl
theorem extractK_got {p : MV} {f : Nat} {k : MV → Prg} {H : Heap} {c : Nat} {l : Log} {out : MV × Heap × Nat × Log} (h : run (extractK P p f k) H c l = some out) :
  Got k out fun m H' => H' = H ∧ ∀ x w u, Rnd x p u → ∃ r, (Instr.extract u f).run P w = .ok r w ∧ Rnd x m r := by
 unfold extractK at h
 split at h
 ·rename_i vs
  split at h
  ·rename_i m hm
   rw [whnfK_eq] at h
   refine ⟨_, _, _, _, h, rfl, fun x w u hp => ?_⟩
   cases hp with
   | tup hs =>
    obtain ⟨v, h1, h2⟩ := hs.get f m hm
    exact ⟨v, by simp [Instr.extract, h1], h2⟩
  ·exact (not_fail h).elim
 ·obtain ⟨m, H', c', l', h4, e, r, em, hr⟩ := pureK_got h
  exact ⟨m, H', c', l', h4, e, fun x w u hu => ⟨r, by rw [hu.v_eq]; exact hr w, by rw [em]; exact .v r⟩⟩
 ·exact (not_fail h).elim

/-! ### The built-in functions -/
theorem builtinK_got {b : Builtin} {ts : Array TypeId} {ty : TypeId} {args : List MV} {k : MV → Prg} {H : Heap} {c : Nat} {l : Log} {out : MV × Heap × Nat × Log} (h : run (builtinK P b ts ty args k) H c l = some out) :
  Got k out fun m H' => ∀ x w vs, Rel B x H w → Rnds x args vs → ∃ r w', (∀ cons, (builtin b ts ty cons vs.toArray).run P w = .ok (.value r) w') ∧ Post B x H' m w r w' := by
 unfold builtinK at h
 split at h
 ·split at h
  ·refine (lenK_got h).mono fun m H' ⟨e, hm⟩ x w vs hR hvs => ?_
   subst e
   cases hvs with
   | cons h1 hs =>
    cases hs
    obtain ⟨r, h2, h3⟩ := hm x w _ h1
    exact ⟨r, w, fun cons => by simp [builtin, h2], Post.still hR h3⟩
  ·exact (not_fail h).elim
 ·split at h
  ·refine (capBK_got h).mono fun m H' ⟨e, hm⟩ x w vs hR hvs => ?_
   subst e
   cases hvs with
   | cons h1 hs =>
    cases hs
    obtain ⟨r, h2, h3⟩ := hm x w _ h1
    exact ⟨r, w, fun cons => by simp [builtin, h2], Post.still hR h3⟩
  ·exact (not_fail h).elim
 ·split at h
  ·rename_i s y t ht
   obtain ⟨tx, htx, hg⟩ := appendK_got (B := B) h
   refine hg.mono fun m H' hm x w vs hR hvs => ?_
   cases hvs with
   | cons h1 hs =>
    cases hs with
    | cons h2 hs =>
     cases hs
     rename_i u v
     obtain ⟨r, w', h3, h4⟩ := hm x w ty u v hR h1 h2
     refine ⟨r, w', fun cons => ?_, h4⟩
     have e : (Builtin.append_ ts ty #[u, v]) = Builtin.append_ #[t, tx] ty #[u, v] := by simp [Builtin.append_, ht, htx]
     show (do pure (Next.value (← Builtin.append_ ts ty #[u, v])) : Sem Next).run P w = _
     rw [e]
     simp [h3]
  ·exact (not_fail h).elim
 ·split at h
  ·rename_i s y t ht
   refine (copyK_got (B := B) h).mono fun m H' hm x w vs hR hvs => ?_
   cases hvs with
   | cons h1 hs =>
    cases hs with
    | cons h2 hs =>
     cases hs
     obtain ⟨r, w', h3, h4⟩ := hm x w ts ty _ _ ht hR h1 h2
     exact ⟨r, w', fun cons => by simp [builtin, h3], h4⟩
  ·exact (not_fail h).elim
 ·split at h
  ·rename_i s t ht
   refine (clearK_got (B := B) h).mono fun m H' hm x w vs hR hvs => ?_
   cases hvs with
   | cons h1 hs =>
    cases hs
    obtain ⟨r, w', h3, h4⟩ := hm x w ts ty _ ht hR h1
    exact ⟨r, w', fun cons => by simp [builtin, h3], h4⟩
  ·exact (not_fail h).elim
 ·split at h
  ·rename_i xs hxs
   obtain ⟨m, H', c', l', h4, e, r, em, hr⟩ := pureK_got h
   subst e
   refine ⟨m, H', c', l', h4, fun x w vs hR hvs => ⟨r, w, fun cons => ?_, by rw [em]; exact Post.still hR (.v r)⟩⟩
   rw [plains_spec hxs hvs]
   simp [builtin, hr w]
  ·exact (not_fail h).elim
 ·split at h
  ·rename_i xs hxs
   obtain ⟨m, H', c', l', h4, e, r, em, hr⟩ := pureK_got h
   subst e
   refine ⟨m, H', c', l', h4, fun x w vs hR hvs => ⟨r, w, fun cons => ?_, by rw [em]; exact Post.still hR (.v r)⟩⟩
   rw [plains_spec hxs hvs]
   simp [builtin, hr w]
  ·exact (not_fail h).elim
 ·exact (not_fail h).elim
end Go.Proofs.YtbbbflnnbbaamaaGreatDoor.Mini
namespace Go.Proofs.YtbbbflnnbbaamaaGreatDoor.Mini
open Go.RowKit

variable {P : Program} {B : Nat}
def encE (kk : IntKind) (e : Int × Value) : Value × Value := (.int kk e.1, e.2)
theorem find_spec (k0 kk : IntKind) (a : Int) (y : Value) : ∀ (l : List MapEntry) (es : List (Int × Value)) (i : Nat), l.map (fun e => (e.key, e.val)) = es.map (encE kk) →
  (Instr.findNow (.int k0) (.int kk a) l i = some none ∧ findI a es = none ∧ putI a y es = es ++ [(a, y)]) ∨
  ∃ j e old, Instr.findNow (.int k0) (.int kk a) l i = some (some (i + j, old)) ∧ findI a es = some old ∧ l[j]? = some e ∧ e.key = .int kk a ∧ ∀ b, (l.set j { e with key := .int kk a, val := y, born := b }).map (fun e => (e.key, e.val)) = (putI a y es).map (encE kk)
 | [], [], i, _ => .inl ⟨rfl, rfl, rfl⟩
 | [], e :: es, i, h => by simp at h
 | e :: l, [], i, h => by simp at h
 | e :: l, (b, v) :: es, i, h => by
  simp only [List.map_cons, List.cons.injEq, encE, Prod.mk.injEq] at h
  obtain ⟨⟨hk, hv⟩, hr⟩ := h
  have hs : Instr.sameNow (.int k0) (.int kk a) e.key = some (a == b) := by rw [hk]; simp [Instr.sameNow]
  unfold Instr.findNow
  rw [hs]
  cases hab : (a == b) with
  | true =>
   have hab' : a = b := by simpa using hab
   subst hab'
   refine .inr ⟨0, e, e.val, rfl, ?_, rfl, hk, fun c => ?_⟩
   ·simp [findI, hv]
   ·simp [putI, encE, hr]
  | false =>
   rcases find_spec k0 kk a y l es (i + 1) hr with ⟨h1, h2, h3⟩ | ⟨j, e', old, h1, h2, h3, h4, h5⟩
   ·refine .inl ⟨h1, ?_, ?_⟩
    ·simp only [findI, hab]; exact h2
    ·simp only [putI, hab, h3]; rfl
   ·refine .inr ⟨j + 1, e', old, ?_, ?_, by simpa using h3, h4, fun c => ?_⟩
    ·rw [show i + (j + 1) = i + 1 + j by omega]; exact h1
    ·simp only [findI, hab]; exact h2
    ·have := h5 c
     simp only [List.set_cons_succ, List.map_cons, putI, hab, this, encE, hk, hv]
theorem strictM_eq {β : Type} : ∀ (es : List (Int × Value)) (k : List (Int × Value) → β), strictM es k = k es
 | [], k => rfl
 | (a, v) :: es, k => by unfold strictM; rw [strictM_eq es]
theorem intMap_spec {t : TypeId} {k : IntKind} {e : TypeId} (h : intMap P t = some (k, e)) : ∃ kt, P.underlying t = some (.map kt e) ∧ P.underlying kt = some (.int k) := by
 unfold intMap at h
 split at h
 ·rename_i kt e' hu
  split at h
  ·rename_i k' hk
   simp only [Option.some.injEq, Prod.mk.injEq] at h
   obtain ⟨rfl, rfl⟩ := h
   exact ⟨kt, hu, hk⟩
  ·cases h
 ·cases h
theorem putObj_below {w : World} {b : Nat} (h : B ≤ b) (o : Obj) : Below B w (w.putObj b o) := ⟨rfl, rfl, rfl, by simp, fun k hk => World.putObj_heap_other (by omega)⟩
theorem getC_got {n : Nat} {k : Cell → Prg} {H : Heap} {c : Nat} {l : Log} {out : MV × Heap × Nat × Log} (h : run (.getC n k) H c l = some out) : ∃ x l', H.get n = some x ∧ run (k x) H c l' = some out := by
 unfold run at h
 cases hg : H.get n with
 | none => rw [hg] at h; cases h
 | some x => rw [hg] at h; exact ⟨x, _, rfl, h⟩
theorem setC_got {n : Nat} {x : Cell} {k : Prg} {H : Heap} {c : Nat} {l : Log} {out : MV × Heap × Nat × Log} (h : run (.setC n x k) H c l = some out) : n < far ∧ ∃ l', run k (H.set n x) c l' = some out := by
 unfold run at h
 split at h
 ·rename_i h1 h2
  simp only [setK_set] at h
  exact ⟨near_of_ble h2, _, h⟩
 ·cases h
theorem newC_got {x : Cell} {k : Nat → Prg} {H : Heap} {c : Nat} {l : Log} {out : MV × Heap × Nat × Log} (h : run (.newC x k) H c l = some out) : H.get c = none ∧ c < far ∧ ∃ l', run (k c) (H.set c x) (c + 1) l' = some out := by
 unfold run at h
 split at h
 ·rename_i h1 h2
  simp only [setK_set, forceN_eq] at h
  exact ⟨h1, near_of_ble h2, _, h⟩
 ·cases h
theorem sameBits_int (n : Nat) (k : IntKind) (a : Int) : Instr.sameBits n (.int k a) (.int k a) = true := by cases n <;> simp [Instr.sameBits]
theorem mapUpdateK_got {t : TypeId} {p q r : MV} {k : MV → Prg} {H : Heap} {c : Nat} {l : Log} {out : MV × Heap × Nat × Log} (h : run (mapUpdateK P t p q r k) H c l = some out) :
  Got k out fun m H' => m = MV.undef ∧ ∀ x w u v z, Rel B x H w → Rnd x p u → Rnd x q v → Rnd x r z → ∃ w', (Instr.mapUpdate t u v z).run P w = .ok () w' ∧ Rel B x H' w' ∧ Below B w w' := by
 unfold mapUpdateK at h
 split at h
 ·rename_i k0 e n kk a y hm
  obtain ⟨kt, hu, hk⟩ := intMap_spec hm
  obtain ⟨cell, l1, hg, h1⟩ := getC_got h
  clear h
  split at h1
  ·rename_i kk' es
   split at h1
   ·rename_i hd
    rw [Bool.and_eq_true, decide_eq_true_eq, decide_eq_true_eq] at hd
    obtain ⟨rfl, rfl⟩ := hd
    rw [strictM_eq] at h1
    obtain ⟨hf, l2, h2⟩ := setC_got h1
    refine ⟨_, _, _, _, h2, rfl, fun x w u v z hR hp hq hr => ?_⟩
    rw [hq.v_eq, hr.v_eq]
    obtain ⟨L, g1, g2, g3, arr, clock, g4, g5⟩ := hR.live n _ hg (fun e => by cases e)
    cases hp with
    | mref hL =>
     rw [hL] at g1; cases g1
     have hck : (Instr.checkKey false 10000 kt (.int k0 a)).run P w = .ok () w := MapKept.run_checkKey hk (show MapKept.IsKey (.int k0) (.int k0 a) from rfl) false 9999
     rcases find_spec k0 k0 a y arr.toList es 0 g5 with ⟨f1, f2, f3⟩ | ⟨j, e', old, f1, f2, f3, f4, f5⟩
     ·have hfk := MapKept.run_findKey (w := w) hk f1
      refine ⟨w.putObj L.b (.map (arr.push { key := .int k0 a, val := y, born := clock }) (clock + 1)), ?_, hR.putC hg (fun e => by cases e) hf hL (fun k hk => World.putObj_heap_other hk) (by simp) ?_, putObj_below g2 _⟩
      ·simp [Instr.mapUpdate, run_underlying hu, MapKept.run_getObj_map g4, hck, hfk, MapKept.run_setObj_map _ g4, World.putObj]
      ·refine ⟨_, _, World.putObj_heap_same g3, ?_⟩
       rw [f3]
       simp [g5]
     ·have hfk := MapKept.run_findKey (w := w) hk f1
      rw [Nat.zero_add] at hfk
      have hj : arr[j]? = some e' := by simpa using f3
      have hks : (Instr.keyThatStays (.int k0 a) (.int k0 a)).run P w = .ok (.int k0 a) w := by simp [Instr.keyThatStays, sameBits_int]
      refine ⟨w.putObj L.b (.map (arr.modify j fun e => { e with key := .int k0 a, val := y }) clock), ?_, hR.putC hg (fun e => by cases e) hf hL (fun k hk => World.putObj_heap_other hk) (by simp) ?_, putObj_below g2 _⟩
      ·simp [Instr.mapUpdate, run_underlying hu, MapKept.run_getObj_map g4, hck, hfk, hj, f4, hks, MapKept.run_setObj_map _ g4, World.putObj]
      ·refine ⟨_, _, World.putObj_heap_same g3, ?_⟩
       have hjl : j < arr.size := (Array.getElem?_eq_some_iff.1 hj).1
       have he : arr[j] = e' := (Array.getElem?_eq_some_iff.1 hj).2
       have e1 : (arr.modify j fun e => { e with key := .int k0 a, val := y }).toList = arr.toList.set j { e' with key := .int k0 a, val := y, born := e'.born } := by
        apply List.ext_getElem?
        intro i
        rw [List.getElem?_set]
        simp only [Array.getElem?_toList, Array.getElem?_modify]
        by_cases hi : j = i
        ·subst hi; simp [hjl, he]
        ·simp [hi]
       rw [e1]
       exact f5 _
   ·exact (not_fail h1).elim
  ·exact (not_fail h1).elim
 ·exact (not_fail h).elim
theorem lookupK_got {t : TypeId} {p q : MV} {ok : Bool} {k : MV → Prg} {H : Heap} {c : Nat} {l : Log} {out : MV × Heap × Nat × Log} (h : run (lookupK P t p q ok k) H c l = some out) :
  Got k out fun m H' => H' = H ∧ ∀ x w u v, Rel B x H w → Rnd x p u → Rnd x q v → ∃ r, (Instr.lookup t u v ok).run P w = .ok r w ∧ Rnd x m r := by
 unfold lookupK at h
 split at h
 ·rename_i k0 e n kk a hm
  obtain ⟨kt, hu, hk⟩ := intMap_spec hm
  obtain ⟨cell, l1, hg, h1⟩ := getC_got h
  clear h
  split at h1
  ·rename_i kk' es
   split at h1
   ·rename_i hd
    rw [Bool.and_eq_true, decide_eq_true_eq, decide_eq_true_eq] at hd
    obtain ⟨rfl, rfl⟩ := hd
    have main : ∀ x w u v, Rel B x H w → Rnd x (.mref n) u → Rnd x (.v (.int k0 a)) v → ∃ arr : Array MapEntry, u = u ∧ v = .int k0 a ∧ (∀ o, findI a es = o → match o with
      | some y => ∀ (ok : Bool), (Instr.lookup t u v ok).run P w = .ok (if ok then .tuple #[y, .bool true] else y) w
      | none => ∀ (ok : Bool) (i : TypeInfo) (z : Value), P.info? e = some i → i.zero = some z → (Instr.lookup t u v ok).run P w = .ok (if ok then .tuple #[z, .bool false] else z) w) := by
     intro x w u v hR hp hq
     obtain ⟨L, g1, g2, g3, arr, clock, g4, g5⟩ := hR.live n _ hg (fun e => by cases e)
     rw [hq.v_eq]
     cases hp with
     | mref hL =>
      rw [hL] at g1; cases g1
      refine ⟨arr, rfl, rfl, fun o ho => ?_⟩
      have hck : ∀ em, (Instr.checkKey em 10000 kt (.int k0 a)).run P w = .ok () w := fun em => MapKept.run_checkKey hk (show MapKept.IsKey (.int k0) (.int k0 a) from rfl) em 9999
      rcases find_spec k0 k0 a (.bool false) arr.toList es 0 g5 with ⟨f1, f2, f3⟩ | ⟨j, e', old, f1, f2, f3, f4, f5⟩
      ·have hfk := MapKept.run_findKey (w := w) hk f1
       rw [f2] at ho
       subst ho
       intro ok i z hi hz
       cases ok <;> simp [Instr.lookup, run_underlying hu, MapKept.run_getObj_map g4, hck, hfk, zeroValue, typeInfo, hi, hz]
      ·have hfk := MapKept.run_findKey (w := w) hk f1
       rw [f2] at ho
       subst ho
       intro ok
       cases ok <;> simp [Instr.lookup, run_underlying hu, MapKept.run_getObj_map g4, hck, hfk]
    split at h1
    ·rename_i y hy
     cases ok with
     | true =>
      refine ⟨_, _, _, _, h1, rfl, fun x w u v hR hp hq => ?_⟩
      obtain ⟨_, _, _, hm⟩ := main x w u v hR hp hq
      exact ⟨_, hm _ hy true, .tup (.cons (.v _) (.cons (.v _) .nil))⟩
     | false =>
      rw [forceV_eq] at h1
      refine ⟨_, _, _, _, h1, rfl, fun x w u v hR hp hq => ?_⟩
      obtain ⟨_, _, _, hm⟩ := main x w u v hR hp hq
      exact ⟨_, hm _ hy false, .v _⟩
    ·rename_i hy
     split at h1
     ·rename_i i hi
      split at h1
      ·rename_i z hz
       cases ok with
       | true =>
        refine ⟨_, _, _, _, h1, rfl, fun x w u v hR hp hq => ?_⟩
        obtain ⟨_, _, _, hm⟩ := main x w u v hR hp hq
        exact ⟨_, hm _ hy true i z hi hz, .tup (.cons (.v _) (.cons (.v _) .nil))⟩
       | false =>
        refine ⟨_, _, _, _, h1, rfl, fun x w u v hR hp hq => ?_⟩
        obtain ⟨_, _, _, hm⟩ := main x w u v hR hp hq
        exact ⟨_, hm _ hy false i z hi hz, .v _⟩
      ·exact (not_fail h1).elim
     ·exact (not_fail h1).elim
   ·exact (not_fail h1).elim
  ·exact (not_fail h1).elim
 ·exact (not_fail h).elim
end Go.Proofs.YtbbbflnnbbaamaaGreatDoor.Mini
