/- Packed of several texts. -/
import Derived.Test.YtpdbokbmchlgpaaGreatK44
import Derived.Laws.Slices
namespace Go.Proofs.YtpdbokbmchlgpaaGreat.Mini
open Go.RowKit

variable {P : Program} {B : Nat}
def BoundIs (o : Option Value) (d b n : Nat) : Prop := (o = none ∧ n = d) ∨ ∃ t, o = some (.int t (Int.ofNat n)) ∧ n ≤ b
theorem run_bound (t : IntKind) (n y : Nat) (code : BoundsCode) (h : n ≤ y) (w : World) : (Instr.sliceBound (.int t (n : Int)) y code).run P w = .ok n w := by
  have := run_sliceBound (P := P) (w := w) t (n : Int) y code (Int.natCast_nonneg n) (Int.ofNat_le.2 h)
  simpa using this
theorem run_bounds {len cap m h l : Nat} {lo hi mx : Option Value} (hm : BoundIs mx cap cap m) (hh : BoundIs hi len m h) (hl : BoundIs lo 0 h l) (hmx : mx ≠ none → hi ≠ none) (w : World) :
    (Instr.sliceBounds true len cap lo hi mx).run P w = .ok (l, h, m) w := by
  unfold Instr.sliceBounds
  rcases hm with ⟨rfl, rfl⟩ | ⟨tm, rfl, h1⟩
  · rcases hh with ⟨rfl, rfl⟩ | ⟨th, rfl, h2⟩ <;> rcases hl with ⟨rfl, rfl⟩ | ⟨tl, rfl, h3⟩
    · simp
    · simp [run_bound _ _ _ _ h3]
    · simp [run_bound _ _ _ _ h2]
    · simp [run_bound _ _ _ _ h2, run_bound _ _ _ _ h3]
  · rcases hh with ⟨rfl, rfl⟩ | ⟨th, rfl, h2⟩
    · exact absurd rfl (hmx (fun e => by cases e))
    · rcases hl with ⟨rfl, rfl⟩ | ⟨tl, rfl, h3⟩
      · simp [run_bound _ _ _ _ h1, run_bound _ _ _ _ h2]
      · simp [run_bound _ _ _ _ h1, run_bound _ _ _ _ h2, run_bound _ _ _ _ h3]
theorem boundK_got {F : Fr} {o : Option Operand} {d b : Nat} {k : Nat → Prg} {H : Heap} {c : Nat} {l : Log} {out : MV × Heap × Nat × Log} (h : run (boundK F o d b k) H c l = some out) :
    ∃ n, run (k n) H c l = some out ∧ ∀ x (ρ : Operand → Value), (∀ y, Rnd x (F.ev y) (ρ y)) → BoundIs (o.map ρ) d b n := by
  unfold boundK at h
  split at h
  · exact ⟨d, h, fun x ρ _ => .inl ⟨rfl, rfl⟩⟩
  · rename_i y
    rw [evK_eq] at h
    obtain ⟨t, n, e, h2⟩ := natK_got h
    clear h
    split at h2
    · rename_i hb
      refine ⟨n, h2, fun x ρ hρ => .inr ⟨t, ?_, ble_le hb⟩⟩
      have := hρ y
      rw [e] at this
      simp [this.v_eq]
    · exact (not_fail h2).elim
theorem plainK_got {F : Fr} {o : Option Operand} {k : Option Value → Prg} {H : Heap} {c : Nat} {l : Log} {out : MV × Heap × Nat × Log} (h : run (plainK F o k) H c l = some out) :
    ∃ v, run (k v) H c l = some out ∧ ∀ x (ρ : Operand → Value), (∀ y, Rnd x (F.ev y) (ρ y)) → o.map ρ = v := by
  unfold plainK at h
  split at h
  · exact ⟨none, h, fun x ρ _ => rfl⟩
  · rename_i y
    rw [evK_eq] at h
    split at h
    · rename_i v e
      refine ⟨some v, h, fun x ρ hρ => ?_⟩
      have := hρ y
      rw [e] at this
      simp [this.v_eq]
    · exact (not_fail h).elim
/-- A slice of a slice. -/
theorem run_slice_of {t e : TypeId} {i : TypeInfo} (hu : P.underlying t = some (.slice e)) (hi : P.info? e = some i) {a : Option Addr} {len cap m h l : Nat} {lo hi' mx : Option Value} (hm : BoundIs mx cap cap m) (hh : BoundIs hi' len m h) (hl : BoundIs lo 0 h l) (hmx : mx ≠ none → hi' ≠ none) (w : World) :
    (Instr.sliceAt t (.slice a len cap) lo hi' mx).run P w = .ok (.slice (if m = l then a else a.map (·.add (l * i.size))) (h - l) (m - l)) w := by
  unfold Instr.sliceAt
  rw [Sem.run_bind, run_underlying hu]
  simp only [Result.andThen_ok]
  unfold Instr.slice
  rw [Sem.run_bind, run_underlying hu]
  simp only [Result.andThen_ok, Sem.run_bind, run_bounds hm hh hl hmx w]
  simp [sizeOf, typeInfo, hi]
theorem sliceK_got {F : Fr} {t : TypeId} {p : MV} {lo hi mx : Option Operand} {k : MV → Prg} {H : Heap} {c : Nat} {l : Log} {out : MV × Heap × Nat × Log} (h : run (sliceK P F t p lo hi mx k) H c l = some out) :
    Got k out fun m H' => H' = H ∧ ∀ x w v (ρ : Operand → Value), Rnd x p v → (∀ y, Rnd x (F.ev y) (ρ y)) → ∃ u, (Instr.sliceAt t v (lo.map ρ) (hi.map ρ) (mx.map ρ)).run P w = .ok u w ∧ Rnd x m u := by
  have plain : ∀ {y : Value} {d : TypeDesc}, P.underlying t = some d → (∀ n e, d ≠ .array n e) → run (plainK F lo fun lo => plainK F hi fun hi => plainK F mx fun mx => pureK P (Instr.slice t y lo hi mx) k) H c l = some out → Got k out fun m H' => H' = H ∧ ∀ x w v (ρ : Operand → Value), Rnd x (.v y) v → (∀ y, Rnd x (F.ev y) (ρ y)) → ∃ u, (Instr.sliceAt t v (lo.map ρ) (hi.map ρ) (mx.map ρ)).run P w = .ok u w ∧ Rnd x m u := by
    intro y d hu hd h
    obtain ⟨v1, h1, r1⟩ := plainK_got h
    obtain ⟨v2, h2, r2⟩ := plainK_got h1
    obtain ⟨v3, h3, r3⟩ := plainK_got h2
    obtain ⟨m, H', c', l', h4, e, r, em, hr⟩ := pureK_got h3
    refine ⟨m, H', c', l', h4, e, fun x w v ρ hv hρ => ⟨r, ?_, by rw [em]; exact .v r⟩⟩
    rw [r1 x ρ hρ, r2 x ρ hρ, r3 x ρ hρ, hv.v_eq]
    unfold Instr.sliceAt
    rw [Sem.run_bind, run_underlying hu]
    simp only [Result.andThen_ok]
    cases d <;> first | exact hr w | exact absurd rfl (hd _ _)
  unfold sliceK at h
  split at h
  · rename_i e hu
    split at h
    · exact (not_fail h).elim
    · rename_i i hi'
      split at h
      · rename_i n off len cp
        split at h
        · rename_i mo c0
          obtain ⟨m, h1, r1⟩ := boundK_got h
          obtain ⟨hh, h2, r2⟩ := boundK_got h1
          obtain ⟨ll, h3, r3⟩ := boundK_got h2
          split at h3
          · exact (not_fail h3).elim
          · rename_i hy
            simp only [forceN_eq] at h3
            refine ⟨_, _, _, _, h3, rfl, fun x w v ρ hv hρ => ?_⟩
            cases hv with
            | sl hL hc =>
              rename_i L
              have b1 := r1 x ρ hρ
              have b2 := r2 x ρ hρ
              have b3 := r3 x ρ hρ
              have hb2 : BoundIs (Option.map ρ (some hy)) len m hh := by
                rcases b2 with ⟨e, _⟩ | b2
                · cases e
                · exact .inr b2
              have e1 : hh ≤ m := by rcases hb2 with ⟨e, _⟩ | ⟨_, _, e⟩; cases e; exact e
              refine ⟨_, run_slice_of hu hi' b1 hb2 b3 (fun _ => by simp) w, ?_⟩
              by_cases q : m = ll
              · rw [if_pos q, if_pos q]; exact .sl hL (by show hh - ll ≤ m - ll; omega)
              · rw [if_neg q, if_neg q]
                simp only [Option.map_some, Addr.add_mid]
                rw [Nat.add_assoc]
                exact .sl hL (by show hh - ll ≤ m - ll; omega)
        · rename_i c0
          obtain ⟨hh, h2, r2⟩ := boundK_got h
          obtain ⟨ll, h3, r3⟩ := boundK_got h2
          simp only [forceN_eq] at h3
          refine ⟨_, _, _, _, h3, rfl, fun x w v ρ hv hρ => ?_⟩
          cases hv with
          | sl hL hc =>
            rename_i L
            have b2 := r2 x ρ hρ
            have b3 := r3 x ρ hρ
            have e1 : hh ≤ c0 := by
              rcases b2 with ⟨_, e⟩ | ⟨_, _, e⟩
              · have : len ≤ c0 := hc; omega
              · exact e
            refine ⟨_, run_slice_of (cap := c0) hu hi' (.inl ⟨rfl, rfl⟩) b2 b3 (fun e => absurd rfl e) w, ?_⟩
            by_cases q : c0 = ll
            · rw [if_pos q, if_pos q]; exact .sl hL (by show hh - ll ≤ c0 - ll; omega)
            · rw [if_neg q, if_neg q]
              simp only [Option.map_some, Addr.add_mid]
              rw [Nat.add_assoc]
              exact .sl hL (by show hh - ll ≤ c0 - ll; omega)
        · rename_i mo d
          obtain ⟨m, h1, r1⟩ := boundK_got h
          obtain ⟨hh, h2, r2⟩ := boundK_got h1
          obtain ⟨ll, h3, r3⟩ := boundK_got h2
          split at h3
          · exact (not_fail h3).elim
          · rename_i hy
            simp only [forceN_eq] at h3
            refine ⟨_, _, _, _, h3, rfl, fun x w v ρ hv hρ => ?_⟩
            cases hv with
            | sl hL hc =>
              rename_i L
              have b1 := r1 x ρ hρ
              have b2 := r2 x ρ hρ
              have b3 := r3 x ρ hρ
              have hc' : len ≤ L.k - d := hc
              have hb1 : BoundIs (Option.map ρ (some mo)) (L.k - d) (L.k - d) m := by
                rcases b1 with ⟨e, _⟩ | ⟨t, e, b1⟩
                · cases e
                · exact .inr ⟨t, e, by omega⟩
              have hb2 : BoundIs (Option.map ρ (some hy)) len m hh := by
                rcases b2 with ⟨e, _⟩ | b2
                · cases e
                · exact .inr b2
              have e1 : hh ≤ m := by rcases hb2 with ⟨e, _⟩ | ⟨_, _, e⟩; cases e; exact e
              refine ⟨_, run_slice_of hu hi' hb1 hb2 b3 (fun _ => by simp) w, ?_⟩
              by_cases q : m = ll
              · rw [if_pos q, if_pos q]; exact .sl hL (by show hh - ll ≤ m - ll; omega)
              · rw [if_neg q, if_neg q]
                simp only [Option.map_some, Addr.add_mid]
                rw [Nat.add_assoc]
                exact .sl hL (by show hh - ll ≤ m - ll; omega)
        · rename_i d
          obtain ⟨hh, h2, r2⟩ := boundK_got h
          obtain ⟨ll, h3, r3⟩ := boundK_got h2
          split at h3
          · rename_i hb
            have hlt : ll < len := by
              rcases Nat.lt_or_ge ll len with q | q
              · exact q
              · rw [Nat.ble_eq_true_of_le q] at hb; cases hb
            simp only [forceN_eq] at h3
            refine ⟨_, _, _, _, h3, rfl, fun x w v ρ hv hρ => ?_⟩
            cases hv with
            | sl hL hc =>
              rename_i L
              have b2 := r2 x ρ hρ
              have b3 := r3 x ρ hρ
              have hc' : len ≤ L.k - d := hc
              have e1 : hh ≤ len := by
                rcases b2 with ⟨_, e⟩ | ⟨_, _, e⟩
                · omega
                · exact e
              have hb2 : BoundIs (Option.map ρ hi) len (L.k - d) hh := by
                rcases b2 with b2 | ⟨t, e, b2⟩
                · exact .inl b2
                · exact .inr ⟨t, e, by omega⟩
              refine ⟨_, run_slice_of (cap := L.k - d) hu hi' (.inl ⟨rfl, rfl⟩) hb2 b3 (fun e => absurd rfl e) w, ?_⟩
              rw [if_neg (by omega)]
              simp only [Option.map_some, Addr.add_mid]
              rw [Nat.add_assoc, Nat.sub_sub]
              exact .sl (c := .open (d + ll)) hL (by show hh - ll ≤ L.k - (d + ll); omega)
          · rename_i hb
            have hle := ble_le hb
            refine ⟨_, _, _, _, h3, rfl, fun x w v ρ hv hρ => ?_⟩
            cases hv with
            | sl hL hc =>
              rename_i L
              have b2 := r2 x ρ hρ
              have b3 := r3 x ρ hρ
              have hc' : len ≤ L.k - d := hc
              have e1 : hh ≤ len := by
                rcases b2 with ⟨_, e⟩ | ⟨_, _, e⟩
                · omega
                · exact e
              have hb2 : BoundIs (Option.map ρ hi) len (L.k - d) hh := by
                rcases b2 with b2 | ⟨t, e, b2⟩
                · exact .inl b2
                · exact .inr ⟨t, e, by omega⟩
              refine ⟨_, run_slice_of (cap := L.k - d) hu hi' (.inl ⟨rfl, rfl⟩) hb2 b3 (fun e => absurd rfl e) w, ?_⟩
              have e2 : hh - ll = 0 := by omega
              rw [e2]
              by_cases q : L.k - d = ll
              · rw [if_pos q]; exact .emp _ _
              · rw [if_neg q]; exact .emp _ _
      · exact plain hu (fun _ _ e => by cases e) h
      · split at h
        · obtain ⟨hh, h2, r2⟩ := boundK_got h
          obtain ⟨ll, h3, r3⟩ := boundK_got h2
          refine ⟨_, _, _, _, h3, rfl, fun x w v ρ hv hρ => ?_⟩
          cases hv with
          | emp a cp =>
            have b2 := r2 x ρ hρ
            have b3 := r3 x ρ hρ
            have e1 : hh = 0 := by
              rcases b2 with ⟨_, e⟩ | ⟨_, _, e⟩ <;> omega
            have hb2 : BoundIs (Option.map ρ hi) 0 cp hh := by
              rcases b2 with b2 | ⟨t, e, b2⟩
              · exact .inl b2
              · exact .inr ⟨t, e, by omega⟩
            refine ⟨_, run_slice_of (cap := cp) hu hi' (.inl ⟨rfl, rfl⟩) hb2 b3 (fun e => absurd rfl e) w, ?_⟩
            have e2 : hh - ll = 0 := by omega
            rw [e2]
            by_cases q : cp = ll
            · rw [if_pos q]; exact .emp _ _
            · rw [if_neg q]; exact .emp _ _
        · exact (not_fail h).elim
      · exact (not_fail h).elim
  · rename_i hu
    split at h
    · exact plain hu (fun _ _ e => by cases e) h
    · exact (not_fail h).elim
  · exact (not_fail h).elim
end Go.Proofs.YtpdbokbmchlgpaaGreat.Mini
