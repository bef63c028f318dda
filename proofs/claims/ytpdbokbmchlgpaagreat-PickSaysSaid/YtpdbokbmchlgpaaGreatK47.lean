/- Packed of several texts. -/
import Derived.Test.YtpdbokbmchlgpaaGreatK46
namespace Go.Proofs.YtpdbokbmchlgpaaGreat.Mini
open Go.RowKit

variable {P : Program} {B : Nat}
theorem copyK_got {t : TypeId} {p q : MV} {k : MV → Prg} {H : Heap} {c : Nat} {l : Log} {out : MV × Heap × Nat × Log} (h : run (copyK P t p q k) H c l = some out) :
    Got k out fun m H' => ∀ x w ts ty u v, ts[0]? = some t → Rel B x H w → Rnd x p u → Rnd x q v → ∃ r w', (Builtin.copy_ ts ty #[u, v]).run P w = .ok r w' ∧ Post B x H' m w r w' := by
  unfold copyK at h
  split at h
  · rename_i e i he
    obtain ⟨hu, hi⟩ := elemInfo_spec he
    split at h
    · obtain ⟨n, new, l1, h2, hlen, hold⟩ := content_got (P := P) (B := B) h
      refine ⟨_, _, _, _, h2, fun x w ts ty u v ht hR hu' hv' => ?_⟩
      obtain ⟨vs, k1, k2, k3, k4⟩ := hold x w v hR hv'
      rw [hu'.v_eq]
      refine ⟨.int .i64 0, w, ?_, Post.still hR (.v _)⟩
      have h0 := k3 w 0 rfl (Nat.zero_le _)
      simp [Builtin.copy_, ht, run_underlying hu, sizeOf, typeInfo, hi, k2, h0, goInt]
    · obtain ⟨n, new, l1, h2, hlen, hold⟩ := content_got (P := P) (B := B) h
      refine ⟨_, _, _, _, h2, fun x w ts ty u v ht hR hu' hv' => ?_⟩
      obtain ⟨vs, k1, k2, k3, k4⟩ := hold x w v hR hv'
      cases hu' with
      | emp a cp =>
        refine ⟨.int .i64 0, w, ?_, Post.still hR (.v _)⟩
        have h0 := k3 w 0 rfl (Nat.zero_le _)
        simp [Builtin.copy_, ht, run_underlying hu, sizeOf, typeInfo, hi, k2, h0, goInt, storeCells]
    · rename_i m off len cp
      obtain ⟨n, new, l1, h2, hlen, hold⟩ := content_got (P := P) (B := B) h
      simp only [forceN_eq] at h2
      unfold run at h2
      split at h2
      · rename_i r hr
        obtain ⟨s1, s2, H', l', s3, s4⟩ := storeCells_got (B := B) h2 hr
        refine ⟨_, _, _, _, s3, fun x w ts ty u v ht hR hu' hv' => ?_⟩
        obtain ⟨vs, k1, k2, k3, k4⟩ := hold x w v hR hv'
        cases hu' with
        | sl hL hc =>
          rename_i L
          obtain ⟨L', e1, e2, e3, e4, e5, e6, e7⟩ := s4 x w _ hR (k1.take (Nat.min n len * i.size))
          rw [hL] at e1; cases e1
          have hf := k3 w (Nat.min n len) rfl (Nat.min_le_left _ _)
          have hst := run_cells_at (P := P) e5 e6 e7
          refine ⟨.int .i64 (Nat.min n len : Nat), _, ?_, x, Env.le_refl x, e3, .v _, e4⟩
          simp [Builtin.copy_, ht, run_underlying hu, sizeOf, typeInfo, hi, k2, hf, goInt, hst]
      · cases h2
    · exact (not_fail h).elim
  · exact (not_fail h).elim
theorem clearK_got {t : TypeId} {p : MV} {k : MV → Prg} {H : Heap} {c : Nat} {l : Log} {out : MV × Heap × Nat × Log} (h : run (clearK P t p k) H c l = some out) :
    Got k out fun m H' => ∀ x w ts ty u, ts[0]? = some t → Rel B x H w → Rnd x p u → ∃ r w', (Builtin.clear_ ts ty #[u]).run P w = .ok r w' ∧ Post B x H' m w r w' := by
  unfold clearK at h
  split at h
  · rename_i e i he
    obtain ⟨hu, hi⟩ := elemInfo_spec he
    split at h
    · refine ⟨_, _, _, _, h, fun x w ts ty u ht hR hu' => ?_⟩
      rw [hu'.v_eq]
      refine ⟨.tuple #[], w, ?_, Post.still hR (.v _)⟩
      simp [Builtin.clear_, ht, run_underlying hu]
    · rename_i m off len cp
      split at h
      · rename_i z hz
        unfold run at h
        split at h
        · rename_i r hr
          obtain ⟨s1, s2, H', l', s3, s4⟩ := storeCells_got (B := B) h hr
          refine ⟨_, _, _, _, s3, fun x w ts ty u ht hR hu' => ?_⟩
          cases hu' with
          | sl hL hc =>
            rename_i L
            obtain ⟨L', e1, e2, e3, e4, e5, e6, e7⟩ := s4 x w _ hR (zeroL_rnds x z.cells (len * z.cells.size))
            rw [hL] at e1; cases e1
            have hst := run_cells_at (P := P) e5 e6 e7
            refine ⟨.tuple #[], _, ?_, x, Env.le_refl x, e3, .v _, e4⟩
            have hz0 : Builtin.zeroCells z.cells len = (Array.range (len * z.cells.size)).map (z.cells[· % z.cells.size]!) := rfl
            rw [← hz0] at hst ⊢
            cases len with
            | zero =>
              have : (Builtin.zeroCells z.cells 0).toList = [] := by simp [Builtin.zeroCells]
              rw [this]
              simp [Builtin.clear_, ht, run_underlying hu, World.setCells]
            | succ len => simp [Builtin.clear_, ht, run_underlying hu, zeroValue, typeInfo, hi, hz, hst]
        · cases h
      · exact (not_fail h).elim
    · exact (not_fail h).elim
  · exact (not_fail h).elim
theorem lenK_got {ts : Array TypeId} {ty : TypeId} {p : MV} {k : MV → Prg} {H : Heap} {c : Nat} {l : Log} {out : MV × Heap × Nat × Log} (h : run (lenK P ts ty p k) H c l = some out) :
    Got k out fun m H' => H' = H ∧ ∀ x w u, Rnd x p u → ∃ r, (Builtin.len_ ts ty #[u]).run P w = .ok r w ∧ Rnd x m r := by
  unfold lenK at h
  split at h
  · obtain ⟨m, H', c', l', h4, e, r, em, hr⟩ := pureK_got h
    exact ⟨m, H', c', l', h4, e, fun x w u hu => ⟨r, by rw [hu.v_eq]; exact hr w, by rw [em]; exact .v r⟩⟩
  · split at h
    · rename_i e he
      obtain ⟨t, ht, hu⟩ := Option.bind_eq_some_iff.1 he
      refine ⟨_, _, _, _, h, rfl, fun x w u hr => ?_⟩
      cases hr with
      | sl hL hc => exact ⟨_, by simp [Builtin.len_, ht, run_underlying hu, goInt], .v _⟩
    · exact (not_fail h).elim
  · split at h
    · rename_i e he
      obtain ⟨t, ht, hu⟩ := Option.bind_eq_some_iff.1 he
      refine ⟨_, _, _, _, h, rfl, fun x w u hr => ?_⟩
      cases hr with
      | emp a cp => exact ⟨_, by simp [Builtin.len_, ht, run_underlying hu, goInt], .v _⟩
    · exact (not_fail h).elim
  · exact (not_fail h).elim
theorem capBK_got {ts : Array TypeId} {ty : TypeId} {p : MV} {k : MV → Prg} {H : Heap} {c : Nat} {l : Log} {out : MV × Heap × Nat × Log} (h : run (capBK P ts ty p k) H c l = some out) :
    Got k out fun m H' => H' = H ∧ ∀ x w u, Rnd x p u → ∃ r, (Builtin.cap_ ts ty #[u]).run P w = .ok r w ∧ Rnd x m r := by
  unfold capBK at h
  split at h
  · obtain ⟨m, H', c', l', h4, e, r, em, hr⟩ := pureK_got h
    exact ⟨m, H', c', l', h4, e, fun x w u hu => ⟨r, by rw [hu.v_eq]; exact hr w, by rw [em]; exact .v r⟩⟩
  · split at h
    · rename_i e he
      obtain ⟨t, ht, hu⟩ := Option.bind_eq_some_iff.1 he
      refine ⟨_, _, _, _, h, rfl, fun x w u hr => ?_⟩
      cases hr with
      | sl hL hc => exact ⟨_, by simp [Builtin.cap_, ht, run_underlying hu, goInt, Cap.val], .v _⟩
    · exact (not_fail h).elim
  · exact (not_fail h).elim
theorem plains_spec {x : Env} : ∀ {ms : List MV} {vs us : List Value}, plains ms = some us → Rnds x ms vs → vs = us
  | _, _, us, h, .nil => by simp only [plains, Option.some.injEq] at h; exact h
  | m :: ms, _, us, h, .cons hm hs => by
    cases m with
    | v y =>
      unfold plains at h
      cases hp : plains ms with
      | none => rw [hp] at h; cases h
      | some xs =>
        rw [hp] at h
        cases h
        rw [hm.v_eq, plains_spec hp hs]
    | _ => cases h
theorem eql_got {op : BinOp} {k : MV → Prg} {H : Heap} {c : Nat} {l : Log} {out : MV × Heap × Nat × Log} (h : run (eqlK op k) H c l = some out) : (op = .eql ∧ run (k (.v (.bool false))) H c l = some out) ∨ (op = .neq ∧ run (k (.v (.bool true))) H c l = some out) := by
  unfold eqlK at h
  split at h
  · exact .inl ⟨rfl, h⟩
  · exact .inr ⟨rfl, h⟩
  · exact (not_fail h).elim
/-- What the two operands are is not known to be alike. -/
theorem eql_post {op : BinOp} {t : TypeId} {xo yo : Operand} {k : MV → Prg} {H : Heap} {c : Nat} {l : Log} {out : MV × Heap × Nat × Log} {p q : MV} (h : run (eqlK op k) H c l = some out)
    (he : ∀ (x : Env) (w : World) (u v : Value), Rnd x p u → Rnd x q v → (∀ o, o = BinOp.eql ∨ o = BinOp.neq → (eqGuard o t xo yo u v).run P w = .ok () w) ∧ (Op.equal t u v).run P w = .ok false w ∧ ∀ o, o = BinOp.eql ∨ o = BinOp.neq → binOp o t u v = (match o with | .eql => (do pure (.bool (← Op.equal t u v))) | _ => (do pure (.bool (!(← Op.equal t u v)))))) :
    Got k out fun m H' => H' = H ∧ ∀ x w u v, Rnd x p u → Rnd x q v → ∃ r, (do eqGuard op t xo yo u v; binOp op t u v : Sem Value).run P w = .ok r w ∧ Rnd x m r := by
  rcases eql_got h with ⟨rfl, h⟩ | ⟨rfl, h⟩
  · refine ⟨_, _, _, _, h, rfl, fun x w u v hu hv => ⟨_, ?_, .v _⟩⟩
    obtain ⟨h1, h2, h3⟩ := he x w u v hu hv
    rw [Sem.run_bind, h1 _ (.inl rfl), Result.andThen_ok, h3 _ (.inl rfl)]
    simp [h2]
  · refine ⟨_, _, _, _, h, rfl, fun x w u v hu hv => ⟨_, ?_, .v _⟩⟩
    obtain ⟨h1, h2, h3⟩ := he x w u v hu hv
    rw [Sem.run_bind, h1 _ (.inr rfl), Result.andThen_ok, h3 _ (.inr rfl)]
    simp [h2]
theorem eq_slice1 (d : Nat) {t e : TypeId} (hu : P.underlying t = some (.slice e)) (a : Addr) (l c l' c' : Nat) (w : World) : (Op.equalIn (d + 1) t (.slice (some a) l c) (.slice none l' c')).run P w = .ok false w := by simp [Op.equalIn, run_underlying hu]
theorem eq_slice2 (d : Nat) {t e : TypeId} (hu : P.underlying t = some (.slice e)) (a : Addr) (l c l' c' : Nat) (w : World) : (Op.equalIn (d + 1) t (.slice none l' c') (.slice (some a) l c)).run P w = .ok false w := by simp [Op.equalIn, run_underlying hu]
theorem eq_ptr1 (d : Nat) {t e : TypeId} (hu : P.underlying t = some (.pointer e)) (a : Addr) (w : World) : (Op.equalIn (d + 1) t (.pointer (some a)) (.pointer none)).run P w = .ok false w := by simp [Op.equalIn, run_underlying hu]
theorem eq_ptr2 (d : Nat) {t e : TypeId} (hu : P.underlying t = some (.pointer e)) (a : Addr) (w : World) : (Op.equalIn (d + 1) t (.pointer none) (.pointer (some a))).run P w = .ok false w := by simp [Op.equalIn, run_underlying hu]
theorem binK_got {op : BinOp} {t : TypeId} {xo yo : Operand} {p q : MV} {k : MV → Prg} {H : Heap} {c : Nat} {l : Log} {out : MV × Heap × Nat × Log} (h : run (binK P op t xo yo p q k) H c l = some out) :
    Got k out fun m H' => H' = H ∧ ∀ x w u v, Rnd x p u → Rnd x q v → ∃ r, (do eqGuard op t xo yo u v; binOp op t u v : Sem Value).run P w = .ok r w ∧ Rnd x m r := by
  unfold binK at h
  split at h
  · obtain ⟨m, H', c', l', h4, e, r, em, hr⟩ := pureK_got h
    exact ⟨m, H', c', l', h4, e, fun x w u v hu hv => ⟨r, by rw [hu.v_eq, hv.v_eq]; exact hr w, by rw [em]; exact .v r⟩⟩
  · split at h
    · rename_i e hu
      refine eql_post h fun x w u v hp hq => ?_
      rw [hq.v_eq]
      cases hp
      refine ⟨fun o ho => ?_, eq_slice1 9999 hu _ _ _ _ _ w, fun o ho => ?_⟩ <;> rcases ho with rfl | rfl <;> simp [eqGuard, binOp]
    · exact (not_fail h).elim
  · split at h
    · rename_i e hu
      refine eql_post h fun x w u v hp hq => ?_
      rw [hp.v_eq]
      cases hq
      refine ⟨fun o ho => ?_, eq_slice2 9999 hu _ _ _ _ _ w, fun o ho => ?_⟩ <;> rcases ho with rfl | rfl <;> simp [eqGuard, binOp]
    · exact (not_fail h).elim
  · split at h
    · rename_i e hu
      refine eql_post h fun x w u v hp hq => ?_
      rw [hq.v_eq]
      cases hp
      refine ⟨fun o ho => ?_, eq_slice1 9999 hu _ _ _ _ _ w, fun o ho => ?_⟩ <;> rcases ho with rfl | rfl <;> simp [eqGuard, binOp]
    · exact (not_fail h).elim
  · split at h
    · rename_i e hu
      refine eql_post h fun x w u v hp hq => ?_
      rw [hp.v_eq]
      cases hq
      refine ⟨fun o ho => ?_, eq_slice2 9999 hu _ _ _ _ _ w, fun o ho => ?_⟩ <;> rcases ho with rfl | rfl <;> simp [eqGuard, binOp]
    · exact (not_fail h).elim
  · split at h
    · rename_i e hu
      refine eql_post h fun x w u v hp hq => ?_
      rw [hq.v_eq]
      cases hp
      refine ⟨fun o ho => ?_, eq_ptr1 9999 hu _ w, fun o ho => ?_⟩ <;> rcases ho with rfl | rfl <;> simp [eqGuard, binOp]
    · exact (not_fail h).elim
  · split at h
    · rename_i e hu
      refine eql_post h fun x w u v hp hq => ?_
      rw [hp.v_eq]
      cases hq
      refine ⟨fun o ho => ?_, eq_ptr2 9999 hu _ w, fun o ho => ?_⟩ <;> rcases ho with rfl | rfl <;> simp [eqGuard, binOp]
    · exact (not_fail h).elim
  · exact (not_fail h).elim
end Go.Proofs.YtpdbokbmchlgpaaGreat.Mini
