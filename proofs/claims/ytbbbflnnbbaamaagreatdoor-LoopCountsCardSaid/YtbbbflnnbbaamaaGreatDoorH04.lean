/- Packed of several texts. -/
import Derived.Test.YtbbbflnnbbaamaaGreatDoorH03
import Derived.Laws.Slices
namespace Go.Proofs.YtbbbflnnbbaamaaGreatDoor.Mini
open Go.RowKit

variable {P : Program} {B : Nat}
def BoundIs (o : Option Value) (d b n : Nat) : Prop := (o = none ∧ n = d) ∨ ∃ t, o = some (.int t (Int.ofNat n)) ∧ n ≤ b
theorem run_bound (t : IntKind) (n y : Nat) (code : BoundsCode) (h : n ≤ y) (w : World) : (Instr.sliceBound (.int t (n : Int)) y code).run P w = .ok n w := by
 have := run_sliceBound (P := P) (w := w) t (n : Int) y code (Int.natCast_nonneg n) (Int.ofNat_le.2 h)
 simpa using this
theorem run_bounds {len cap m h l : Nat} {lo hi mx : Option Value} (hm : BoundIs mx cap cap m) (hh : BoundIs hi len m h) (hl : BoundIs lo 0 h l) (hmx : mx ≠ none → hi ≠ none) (w : World) :
  (Instr.sliceBounds true len cap lo hi mx).run P w = .ok (l, h, m) w := by
 unfold Instr.sliceBounds
 rcases hm with ⟨rfl, rfl⟩ | ⟨tm, rfl, h1⟩
 ·rcases hh with ⟨rfl, rfl⟩ | ⟨th, rfl, h2⟩ <;> rcases hl with ⟨rfl, rfl⟩ | ⟨tl, rfl, h3⟩
  ·simp
  ·simp [run_bound _ _ _ _ h3]
  ·simp [run_bound _ _ _ _ h2]
  ·simp [run_bound _ _ _ _ h2, run_bound _ _ _ _ h3]
 ·rcases hh with ⟨rfl, rfl⟩ | ⟨th, rfl, h2⟩
  ·exact absurd rfl (hmx (fun e => by cases e))
  ·rcases hl with ⟨rfl, rfl⟩ | ⟨tl, rfl, h3⟩
   ·simp [run_bound _ _ _ _ h1, run_bound _ _ _ _ h2]
   ·simp [run_bound _ _ _ _ h1, run_bound _ _ _ _ h2, run_bound _ _ _ _ h3]
theorem boundK_got {F : Fr} {o : Option Operand} {d b : Nat} {k : Nat → Prg} {H : Heap} {c : Nat} {l : Log} {out : MV × Heap × Nat × Log} (h : run (boundK F o d b k) H c l = some out) :
  ∃ n, run (k n) H c l = some out ∧ ∀ x (ρ : Operand → Value), (∀ y, Rnd x (F.ev y) (ρ y)) → BoundIs (o.map ρ) d b n := by
 unfold boundK at h
 split at h
 ·exact ⟨d, h, fun x ρ _ => .inl ⟨rfl, rfl⟩⟩
 ·rename_i y
  rw [evK_eq] at h
  obtain ⟨t, n, e, h2⟩ := natK_got h
  clear h
  split at h2
  ·rename_i hb
   refine ⟨n, h2, fun x ρ hρ => .inr ⟨t, ?_, ble_le hb⟩⟩
   have := hρ y
   rw [e] at this
   simp [this.v_eq]
  ·exact (not_fail h2).elim
theorem plainK_got {F : Fr} {o : Option Operand} {k : Option Value → Prg} {H : Heap} {c : Nat} {l : Log} {out : MV × Heap × Nat × Log} (h : run (plainK F o k) H c l = some out) :
  ∃ v, run (k v) H c l = some out ∧ ∀ x (ρ : Operand → Value), (∀ y, Rnd x (F.ev y) (ρ y)) → o.map ρ = v := by
 unfold plainK at h
 split at h
 ·exact ⟨none, h, fun x ρ _ => rfl⟩
 ·rename_i y
  rw [evK_eq] at h
  split at h
  ·rename_i v e
   refine ⟨some v, h, fun x ρ hρ => ?_⟩
   have := hρ y
   rw [e] at this
   simp [this.v_eq]
  ·exact (not_fail h).elim
theorem run_slice_of {t e : TypeId} {i : TypeInfo} (hu : P.underlying t = some (.slice e)) (hi : P.info? e = some i) {a : Option Addr} {len cap m h l : Nat} {lo hi' mx : Option Value} (hm : BoundIs mx cap cap m) (hh : BoundIs hi' len m h) (hl : BoundIs lo 0 h l) (hmx : mx ≠ none → hi' ≠ none) (w : World) :
  (Instr.sliceAt t (.slice a len cap) lo hi' mx).run P w = .ok (.slice (if m = l then a else a.map (·.add (l * i.size))) (h - l) (m - l)) w := by
 unfold Instr.sliceAt
 rw [Sem.run_bind, run_underlying hu]
 simp only [Result.andThen_ok]
 unfold Instr.slice
 rw [Sem.run_bind, run_underlying hu]
 simp only [Result.andThen_ok, Sem.run_bind, run_bounds hm hh hl hmx w]
 simp [sizeOf, typeInfo, hi]
theorem sliceK_got {F : Fr} {t : TypeId} {p : MV} {lo hi mx : Option Operand} {k : MV → Prg} {H : Heap} {c : Nat} {l : Log} {out : MV × Heap × Nat × Log} (h : run (sliceK P F t p lo hi mx k) H c l = some out) :
  Got k out fun m H' => H' = H ∧ ∀ x w v (ρ : Operand → Value), Rnd x p v → (∀ y, Rnd x (F.ev y) (ρ y)) → ∃ u, (Instr.sliceAt t v (lo.map ρ) (hi.map ρ) (mx.map ρ)).run P w = .ok u w ∧ Rnd x m u := by
 have plain : ∀ {y : Value} {d : TypeDesc}, P.underlying t = some d → (∀ n e, d ≠ .array n e) → run (plainK F lo fun lo => plainK F hi fun hi => plainK F mx fun mx => pureK P (Instr.slice t y lo hi mx) k) H c l = some out → Got k out fun m H' => H' = H ∧ ∀ x w v (ρ : Operand → Value), Rnd x (.v y) v → (∀ y, Rnd x (F.ev y) (ρ y)) → ∃ u, (Instr.sliceAt t v (lo.map ρ) (hi.map ρ) (mx.map ρ)).run P w = .ok u w ∧ Rnd x m u := by
  intro y d hu hd h
  obtain ⟨v1, h1, r1⟩ := plainK_got h
  obtain ⟨v2, h2, r2⟩ := plainK_got h1
  obtain ⟨v3, h3, r3⟩ := plainK_got h2
  obtain ⟨m, H', c', l', h4, e, r, em, hr⟩ := pureK_got h3
  refine ⟨m, H', c', l', h4, e, fun x w v ρ hv hρ => ⟨r, ?_, by rw [em]; exact .v r⟩⟩
  rw [r1 x ρ hρ, r2 x ρ hρ, r3 x ρ hρ, hv.v_eq]
  unfold Instr.sliceAt
  rw [Sem.run_bind, run_underlying hu]
  simp only [Result.andThen_ok]
  cases d <;> first | exact hr w | exact absurd rfl (hd _ _)
 unfold sliceK at h
 split at h
 ·rename_i e hu
  split at h
  ·exact (not_fail h).elim
  ·rename_i i hi'
   split at h
   ·rename_i n off len cp
    split at h
    ·rename_i mo c0
     obtain ⟨m, h1, r1⟩ := boundK_got h
     obtain ⟨hh, h2, r2⟩ := boundK_got h1
     obtain ⟨ll, h3, r3⟩ := boundK_got h2
     split at h3
     ·exact (not_fail h3).elim
     ·rename_i hy
      simp only [forceN_eq] at h3
      refine ⟨_, _, _, _, h3, rfl, fun x w v ρ hv hρ => ?_⟩
      cases hv with
      | sl hL hc =>
       rename_i L
       have b1 := r1 x ρ hρ
       have b2 := r2 x ρ hρ
       have b3 := r3 x ρ hρ
       have hb2 : BoundIs (Option.map ρ (some hy)) len m hh := by
        rcases b2 with ⟨e, _⟩ | b2
        ·cases e
        ·exact .inr b2
       have e1 : hh ≤ m := by rcases hb2 with ⟨e, _⟩ | ⟨_, _, e⟩; cases e; exact e
       refine ⟨_, run_slice_of hu hi' b1 hb2 b3 (fun _ => by simp) w, ?_⟩
       by_cases q : m = ll
       ·rw [if_pos q, if_pos q]; exact .sl hL (by show hh - ll ≤ m - ll; omega)
       ·rw [if_neg q, if_neg q]
        simp only [Option.map_some, Addr.add_mid]
        rw [Nat.add_assoc]
        exact .sl hL (by show hh - ll ≤ m - ll; omega)
    ·rename_i c0
     obtain ⟨hh, h2, r2⟩ := boundK_got h
     obtain ⟨ll, h3, r3⟩ := boundK_got h2
     simp only [forceN_eq] at h3
     refine ⟨_, _, _, _, h3, rfl, fun x w v ρ hv hρ => ?_⟩
     cases hv with
     | sl hL hc =>
      rename_i L
      have b2 := r2 x ρ hρ
      have b3 := r3 x ρ hρ
      have e1 : hh ≤ c0 := by
       rcases b2 with ⟨_, e⟩ | ⟨_, _, e⟩
       ·have : len ≤ c0 := hc; omega
       ·exact e
      refine ⟨_, run_slice_of (cap := c0) hu hi' (.inl ⟨rfl, rfl⟩) b2 b3 (fun e => absurd rfl e) w, ?_⟩
      by_cases q : c0 = ll
      ·rw [if_pos q, if_pos q]; exact .sl hL (by show hh - ll ≤ c0 - ll; omega)
      ·rw [if_neg q, if_neg q]
       simp only [Option.map_some, Addr.add_mid]
       rw [Nat.add_assoc]
       exact .sl hL (by show hh - ll ≤ c0 - ll; omega)
    ·rename_i mo d
     obtain ⟨m, h1, r1⟩ := boundK_got h
     obtain ⟨hh, h2, r2⟩ := boundK_got h1
     obtain ⟨ll, h3, r3⟩ := boundK_got h2
     split at h3
     ·exact (not_fail h3).elim
     ·rename_i hy
      simp only [forceN_eq] at h3
      refine ⟨_, _, _, _, h3, rfl, fun x w v ρ hv hρ => ?_⟩
      cases hv with
      | sl hL hc =>
       rename_i L
       have b1 := r1 x ρ hρ
       have b2 := r2 x ρ hρ
       have b3 := r3 x ρ hρ
       have hc' : len ≤ L.k - d := hc
       have hb1 : BoundIs (Option.map ρ (some mo)) (L.k - d) (L.k - d) m := by
        rcases b1 with ⟨e, _⟩ | ⟨t, e, b1⟩
        ·cases e
        ·exact .inr ⟨t, e, by omega⟩
       have hb2 : BoundIs (Option.map ρ (some hy)) len m hh := by
        rcases b2 with ⟨e, _⟩ | b2
        ·cases e
        ·exact .inr b2
       have e1 : hh ≤ m := by rcases hb2 with ⟨e, _⟩ | ⟨_, _, e⟩; cases e; exact e
       refine ⟨_, run_slice_of hu hi' hb1 hb2 b3 (fun _ => by simp) w, ?_⟩
       by_cases q : m = ll
       ·rw [if_pos q, if_pos q]; exact .sl hL (by show hh - ll ≤ m - ll; omega)
       ·rw [if_neg q, if_neg q]
        simp only [Option.map_some, Addr.add_mid]
        rw [Nat.add_assoc]
        exact .sl hL (by show hh - ll ≤ m - ll; omega)
    ·rename_i d
     obtain ⟨hh, h2, r2⟩ := boundK_got h
     obtain ⟨ll, h3, r3⟩ := boundK_got h2
     split at h3
     ·rename_i hb
      have hlt : ll < len := by
       rcases Nat.lt_or_ge ll len with q | q
       ·exact q
       ·rw [Nat.ble_eq_true_of_le q] at hb; cases hb
      simp only [forceN_eq] at h3
      refine ⟨_, _, _, _, h3, rfl, fun x w v ρ hv hρ => ?_⟩
      cases hv with
      | sl hL hc =>
       rename_i L
       have b2 := r2 x ρ hρ
       have b3 := r3 x ρ hρ
       have hc' : len ≤ L.k - d := hc
       have e1 : hh ≤ len := by
        rcases b2 with ⟨_, e⟩ | ⟨_, _, e⟩
        ·omega
        ·exact e
       have hb2 : BoundIs (Option.map ρ hi) len (L.k - d) hh := by
        rcases b2 with b2 | ⟨t, e, b2⟩
        ·exact .inl b2
        ·exact .inr ⟨t, e, by omega⟩
       refine ⟨_, run_slice_of (cap := L.k - d) hu hi' (.inl ⟨rfl, rfl⟩) hb2 b3 (fun e => absurd rfl e) w, ?_⟩
       rw [if_neg (by omega)]
       simp only [Option.map_some, Addr.add_mid]
       rw [Nat.add_assoc, Nat.sub_sub]
       exact .sl (c := .open (d + ll)) hL (by show hh - ll ≤ L.k - (d + ll); omega)
     ·rename_i hb
      have hle := ble_le hb
      refine ⟨_, _, _, _, h3, rfl, fun x w v ρ hv hρ => ?_⟩
      cases hv with
      | sl hL hc =>
       rename_i L
       have b2 := r2 x ρ hρ
       have b3 := r3 x ρ hρ
       have hc' : len ≤ L.k - d := hc
       have e1 : hh ≤ len := by
        rcases b2 with ⟨_, e⟩ | ⟨_, _, e⟩
        ·omega
        ·exact e
       have hb2 : BoundIs (Option.map ρ hi) len (L.k - d) hh := by
        rcases b2 with b2 | ⟨t, e, b2⟩
        ·exact .inl b2
        ·exact .inr ⟨t, e, by omega⟩
       refine ⟨_, run_slice_of (cap := L.k - d) hu hi' (.inl ⟨rfl, rfl⟩) hb2 b3 (fun e => absurd rfl e) w, ?_⟩
       have e2 : hh - ll = 0 := by omega
       rw [e2]
       by_cases q : L.k - d = ll
       ·rw [if_pos q]; exact .emp _ _
       ·rw [if_neg q]; exact .emp _ _
   ·exact plain hu (fun _ _ e => by cases e) h
   ·split at h
    ·obtain ⟨hh, h2, r2⟩ := boundK_got h
     obtain ⟨ll, h3, r3⟩ := boundK_got h2
     refine ⟨_, _, _, _, h3, rfl, fun x w v ρ hv hρ => ?_⟩
     cases hv with
     | emp a cp =>
      have b2 := r2 x ρ hρ
      have b3 := r3 x ρ hρ
      have e1 : hh = 0 := by
       rcases b2 with ⟨_, e⟩ | ⟨_, _, e⟩ <;> omega
      have hb2 : BoundIs (Option.map ρ hi) 0 cp hh := by
       rcases b2 with b2 | ⟨t, e, b2⟩
       ·exact .inl b2
       ·exact .inr ⟨t, e, by omega⟩
      refine ⟨_, run_slice_of (cap := cp) hu hi' (.inl ⟨rfl, rfl⟩) hb2 b3 (fun e => absurd rfl e) w, ?_⟩
      have e2 : hh - ll = 0 := by omega
      rw [e2]
      by_cases q : cp = ll
      ·rw [if_pos q]; exact .emp _ _
      ·rw [if_neg q]; exact .emp _ _
    ·exact (not_fail h).elim
   ·exact (not_fail h).elim
 ·rename_i hu
  split at h
  ·exact plain hu (fun _ _ e => by cases e) h
  ·exact (not_fail h).elim
 ·exact (not_fail h).elim
end Go.Proofs.YtbbbflnnbbaamaaGreatDoor.Mini
namespace Go.Proofs.YtbbbflnnbbaamaaGreatDoor.Mini
open Go.RowKit

variable {P : Program} {B : Nat}
def Holds (P : Program) (x : Env) (esz n : Nat) (new : List MV) (v : Value) (w : World) : Prop :=
 ∃ vs, Rnds x new vs ∧ (∀ w' : World, (Builtin.lenOf v).run P w' = .ok n w') ∧ (∀ (w' : World) (n' : Nat), w'.heap = w.heap → n' ≤ n → (Builtin.firstCells esz n' v).run P w' = .ok (vs.take (n' * esz)).toArray w') ∧ ∀ u ∈ vs, u.oneCell' = true
theorem content_got {esz : Nat} {p : MV} {k : Nat → List MV → Prg} {H : Heap} {c : Nat} {l : Log} {out : MV × Heap × Nat × Log} (h : run (contentK esz p k) H c l = some out) :
  ∃ n new l', run (k n new) H c l' = some out ∧ new.length = n * esz ∧ ∀ x w v, Rel B x H w → Rnd x p v → Holds P x esz n new v w := by
 unfold contentK at h
 split at h
 ·refine ⟨0, [], _, h, by simp, fun x w v hR hv => ⟨[], .nil, fun w' => ?_, fun w' n' _ hn => ?_, fun u hu => by cases hu⟩⟩
  ·rw [hv.v_eq]; rfl
  ·rw [hv.v_eq]; simp [Builtin.firstCells]
 ·refine ⟨0, [], _, h, by simp, fun x w v hR hv => ⟨[], .nil, fun w' => ?_, fun w' n' _ hn => ?_, fun u hu => by cases hu⟩⟩
  ·cases hv; rfl
  ·cases hv
   have : n' = 0 := by omega
   subst this
   simp [Builtin.firstCells, loadCells, loadCellsFrom]
 ·rename_i s
  split at h
  ·rename_i hb
   have he := beq_eq hb
   subst he
   simp only [forceN_eq, strictK_eq] at h
   have hm : (s.data.toList.map fun b => MV.v (.int .u8 (b.toNat : Int))) = (byteCells s).map .v := by
    unfold byteCells
    rw [List.map_map]
    rfl
   refine ⟨_, _, _, h, by rw [List.length_map, Nat.mul_one]; exact Array.length_toList, fun x w v hR hv => ⟨byteCells s, by rw [hm]; exact Rnds.plain x _, fun w' => by rw [hv.v_eq]; rfl, fun w' n' _ hn => ?_, fun u hu => ?_⟩⟩
   ·rw [hv.v_eq]
    have e : (Builtin.firstCells 1 n' (.string s)).run P w' = .ok ((s.extract 0 n').data.map fun b => Value.int .u8 (b.toNat : Int)) w' := rfl
    rw [e]
    congr 1
    apply Array.ext'
    unfold byteCells
    simp [ByteArray.data_extract]
   ·obtain ⟨b, _, rfl⟩ := List.mem_map.1 hu
    rfl
  ·exact (not_fail h).elim
 ·rename_i n off len cp
  unfold run at h
  split at h
  ·rename_i r hr
   dsimp only at h
   split at h
   ·rename_i hle
    simp only [forceN_eq, readK_eq] at h
    refine ⟨_, _, _, h, readL_length _ _ _, fun x w v hR hv => ?_⟩
    cases hv with
    | sl hL hc =>
     rename_i L
     obtain ⟨L', e1, _, hrow⟩ := hR.row n r hr
     rw [hL] at e1; cases e1
     obtain ⟨vs, k1, k2, k3, k4⟩ := hrow.range (len * esz) off (ble_le hle)
     refine ⟨vs, k1, fun w' => rfl, fun w' n' hw hn => ?_, k4⟩
     have hl : (vs.take (n' * esz)).length = n' * esz := by
      rw [List.length_take, k2]
      exact Nat.min_eq_left (Nat.mul_le_mul_right _ hn)
     have := run_loadCells_list (P := P) w' ⟨L.b, L.s + off, none⟩ (vs.take (n' * esz)) fun j u hj => by
      rw [Addr.add_mid]
      have hj' : vs[j]? = some u := by
       rw [List.getElem?_take] at hj
       split at hj
       ·exact hj
       ·cases hj
      have hc := k3 j u hj'
      unfold World.cell? at hc ⊢
      rw [hw]
      exact hc
     rw [hl] at this
     exact this
   ·exact (not_fail h).elim
  ·cases h
 ·exact (not_fail h).elim
theorem Holds.src {x : Env} {esz n : Nat} {new : List MV} {v : Value} {w : World} (h : Holds P x esz n new v w) (hl : new.length = n * esz) {tx : TypeId} (hk : (∃ e', P.underlying tx = some (.slice e')) ∨ P.underlying tx = some .string) :
  ∃ vs, Rnds x new vs ∧ Src P esz tx v n vs w := by
 obtain ⟨vs, h1, h2, h3, h4⟩ := h
 have hn : vs.length = n * esz := by rw [← h1.length]; exact hl
 have ht : vs.take (n * esz) = vs := by rw [← hn]; simp
 refine ⟨vs, h1, hk, h2, ?_, ?_, hn, h4⟩
 ·have := h3 w n rfl (Nat.le_refl _)
  rwa [ht] at this
 ·have := h3 w.drew n rfl (Nat.le_refl _)
  rwa [ht] at this
theorem zeroCells_size (z : Array Value) (n : Nat) : (Builtin.zeroCells z n).size = n * z.size := by simp [Builtin.zeroCells]
theorem grow_post {x : Env} {H : Heap} {w : World} (hR : Rel B x H w) {c : Nat} (hc : H.get c = none) (hf : c < far) {t tx e ty : TypeId} {i : TypeInfo} {z : Value} (hu : P.underlying t = some (.slice e)) (hi : P.info? e = some i) (hz : i.zero = some z) (hzs : z.cells.size = i.size)
  {base : Option Addr} {len cp n : Nat} {olds news : List MV} {ovs nvs : List Value} (ho : Rnds x olds ovs) (hn : Rnds x news nvs) (hol : ovs.length = len * i.size)
  (hold : (Builtin.firstCells i.size len (.slice base len cp)).run P w.drew = .ok ovs.toArray w.drew) {xv : Value} (hs : Src P i.size tx xv n nvs w) (hg : cp < len + n) (hb : (len + n) * (i.bytes + i.size) < far) (h1 : 1 ≤ i.size) (hleaf : (olds ++ news).all MV.leaf = true) :
  ∃ v w', (Builtin.append_ #[t, tx] ty #[.slice base len cp, xv]).run P w = .ok v w' ∧ Post B x (H.set c (.live ⟨e, i.size, (len + n) * i.size, true, Fill .nil 0 (olds ++ news), []⟩)) (.sl c 0 (len + n) (.open 0)) w v w' := by
 have hb2 := Nat.mul_add (len + n) i.bytes i.size
 have hle : len + n ≤ (len + n) * i.size := Nat.le_mul_of_pos_right _ (by omega)
 unfold far at hb
 have hnl := hs.newsLen
 have hsz : (olds ++ news).length = (len + n) * i.size := by
  rw [List.length_append, ho.length, hn.length, hol, hnl, Nat.add_mul]
 have hrun := run_append_grow_src (P := P) w t tx ty e i z hu hi hz base len cp ovs hold xv n nvs hs hg (by omega) (growslice_fits hg (by omega))
 have hge := grownCap_ge w (len + n) cp e
 have hR' : Rel B x H w.drew := hR.same rfl
 obtain ⟨y, g1, g2, g3⟩ := hR'.alloc (ty := e) (esz := i.size) (opn := true) (zero := []) hc hf (ho.append hn) hleaf (by rw [hsz]; unfold far; omega) (Builtin.zeroCells z.cells (grownCap w (len + n) cp e - (len + n))) (grownCap w (len + n) cp e) (fun _ => by
  rw [zeroCells_size, hzs, List.length_append, hol, hnl, ← Nat.add_mul, ← Nat.add_mul]
  exact Nat.mul_le_mul_right _ (by omega))
 rw [hsz] at g3
 exact ⟨_, _, hrun, y, g1, g3, .sl (c := .open 0) g2 hge, (Below.refl B w).drew.alloc hR.base _⟩
theorem Rel.kill {x : Env} {H : Heap} {w : World} (h : Rel B x H w) {n : Nat} {r : Row} (hn : H.get n = some (.live r)) (hf : n < far) : Rel B x (H.set n .dead) w := by
 obtain ⟨L, h1, _⟩ := h.row n r hn
 exact h.putC hn (fun e => by cases e) hf h1 (fun _ _ => rfl) rfl trivial
theorem room_post {x : Env} {H : Heap} {w : World} (hR : Rel B x H w) {c m : Nat} {r : Row} (hr : H.get m = some (.live r)) (hfm : m < far) (hc : H.get c = none) (hf : c < far) {t tx e ty : TypeId} {i : TypeInfo} (hu : P.underlying t = some (.slice e)) (hi : P.info? e = some i)
  {L : Loc} (hL : x m = some L) {len d n : Nat} {news : List MV} {nvs : List Value} (hn : Rnds x news nvs) {xv : Value} (hs : Src P i.size tx xv n nvs w) (hroom : len + n ≤ L.k - d) (hn0 : 0 < n) (ho : r.opn = true) (hesz : r.esz = i.size) (hty : r.ty = e) (hle : d * i.size + len * i.size ≤ r.size)
  (hsz : (len + n) * i.size < far) :
  ∃ v w', (Builtin.append_ #[t, tx] ty #[.slice (some ⟨L.b, L.s + d * i.size, none⟩) len (L.k - d), xv]).run P w = .ok v w' ∧
   Post B x ((H.set m .dead).set c (.live ⟨e, i.size, (len + n) * i.size, true, Fill .nil 0 (readL r (len * i.size) (d * i.size) ++ news), []⟩)) (.sl c 0 (len + n) (.open 0)) w v w' := by
 obtain ⟨L', e1, e2, hrow⟩ := hR.row m r hr
 rw [hL] at e1; cases e1
 obtain ⟨a, ha, hea⟩ := hrow.arr
 have hea := hea ho
 rw [hesz] at hea
 have hkd : L.k = d + len + n + (L.k - (d + len + n)) := by omega
 have hmul : d * i.size + len * i.size + n * i.size ≤ L.k * i.size := by
  rw [← Nat.add_mul, ← Nat.add_mul]
  exact Nat.mul_le_mul_right _ (by omega)
 have hnl := hs.newsLen
 have hcell : ∀ j, j < nvs.length → (w.cell? ⟨L.b, L.s + d * i.size + len * i.size + j, none⟩).isSome = true := fun j hj => by
  rw [cell_of_row w L.b _ a _ _ ha, Array.getElem?_eq_getElem (by omega)]
  rfl
 have hrun := run_append_room_src (P := P) w t tx ty e i hu hi L.b (L.s + d * i.size) len (L.k - d) xv n nvs hs hroom hcell (fun j _ => hrow.frozen _)
 obtain ⟨ovs, k1, k2, k3, k4⟩ := hrow.range (len * i.size) (d * i.size) hle
 obtain ⟨a', ha', hsa'⟩ := setCells_block L.b nvs (L.s + d * i.size + len * i.size) w a r.ty ha
 obtain ⟨y, g1, g2, g3⟩ := hR.turn hr hfm hc hf hL (r' := ⟨e, i.size, (len + n) * i.size, true, Fill .nil 0 (readL r (len * i.size) (d * i.size) ++ news), []⟩) (L' := ⟨L.b, L.s + d * i.size, L.k - d⟩) (w' := w.setCells L.b (L.s + d * i.size + len * i.size) nvs) rfl
  (fun k hk => setCells_other _ _ hk _ _ _) (setCells_size _ _ _ _) (fun y hy _ => by
   refine ⟨⟨a', by rw [ha', hty], fun _ => ?_⟩, fun j hj => ?_, Nat.le_of_lt hsz⟩
   ·dsimp only
    rw [hsa']
    have : (L.k - d) * i.size = L.k * i.size - d * i.size := Nat.sub_mul _ _ _
    omega
   ·dsimp only at hj ⊢
    have hlen : (readL r (len * i.size) (d * i.size) ++ news).length = (len + n) * i.size := by
     rw [List.length_append, readL_length, hn.length, hnl, Nat.add_mul]
    have hall := (k1.append hn)
    obtain ⟨mv, q1, q2⟩ := cell_filled (ty := e) (esz := i.size) (size := (len + n) * i.size) (opn := true) (zero := []) (cells := readL r (len * i.size) (d * i.size) ++ news) (by omega) (i := j) (by omega)
    obtain ⟨v, q3, q4⟩ := hall.get j mv q1
    refine ⟨v, ?_, by rw [q2]; exact q4.le hy, ?_⟩
    ·rw [Nat.add_mul] at hj
     by_cases hjl : j < len * i.size
     ·rw [World.cell?_setCells_out _ _ _ _ _ (fun _ _ => by show L.s + d * i.size + j < L.s + d * i.size + len * i.size ∨ _; omega)]
      rw [List.getElem?_append_left (by omega)] at q3
      exact k3 j v q3
     ·have hin := World.cell?_setCells_in L.b nvs (L.s + d * i.size + len * i.size) w hcell (j - len * i.size) (by omega)
      rw [show L.s + d * i.size + len * i.size + (j - len * i.size) = L.s + d * i.size + j by omega] at hin
      rw [hin]
      rw [List.getElem?_append_right (by omega), k2, List.getElem?_eq_getElem (by omega)] at q3
      exact q3
    ·rcases List.mem_append.1 (List.mem_of_getElem? q3) with q | q
     ·exact k4 v q
     ·exact hs.one v q)
 exact ⟨_, _, hrun, y, g1, g3, .sl (c := .open 0) g2 hroom, setCells_below e2 _ _ _⟩
theorem appendC_got {t tx e : TypeId} {i : TypeInfo} (hu : P.underlying t = some (.slice e)) (hi : P.info? e = some i) (hk : (∃ e', P.underlying tx = some (.slice e')) ∨ P.underlying tx = some .string) {p q : MV} {k : MV → Prg} {H : Heap} {c : Nat} {l : Log} {out : MV × Heap × Nat × Log} (h : run (appendC e i p q k) H c l = some out) :
  Got k out fun m H' => ∀ x w ty u v, Rel B x H w → Rnd x p u → Rnd x q v → ∃ r w', (Builtin.append_ #[t, tx] ty #[u, v]).run P w = .ok r w' ∧ Post B x H' m w r w' := by
 unfold appendC at h
 split at h
 ·rename_i hz' h1
  obtain ⟨z, hz, hzs⟩ := Option.map_eq_some_iff.1 hz'
  have hzs := beq_eq hzs
  have h1 := ble_le h1
  obtain ⟨n, new, l1, h2, hlen, hold⟩ := content_got (P := P) (B := B) h
  clear h
  split at h2
  ·split at h2
   ·refine ⟨_, _, _, _, h2, fun x w ty u v hR hu' hv' => ?_⟩
    obtain ⟨vs, k1, k2⟩ := (hold x w v hR hv').src hlen hk
    have hvs : vs = [] := List.eq_nil_of_length_eq_zero (by rw [k2.newsLen]; simp)
    subst hvs
    rw [hu'.v_eq]
    exact ⟨_, _, run_append_nothing (P := P) w t tx ty e i hu hi none 0 0 (Nat.le_refl _) v k2, Post.still hR (.v _)⟩
   ·rename_i n
    split at h2
    ·rename_i hb
     simp only [forceN_eq] at h2
     obtain ⟨q1, _, q3, q4, q5, l', q6⟩ := new_got h2
     refine ⟨_, _, _, _, q6, fun x w ty u v hR hu' hv' => ?_⟩
     obtain ⟨vs, k1, k2⟩ := (hold x w v hR hv').src hlen hk
     rw [hu'.v_eq]
     have := grow_post (P := P) (ty := ty) (tx := tx) (len := 0) (cp := 0) (base := none) (olds := []) (ovs := []) hR q4 q5 hu hi hz hzs .nil k1 (by simp) (run_firstCells_none w.drew i.size 0 0 0) k2 (by omega) (by rw [Nat.zero_add]; exact near_of_ble hb) h1 (by simpa using q1)
     simpa using this
    ·exact (not_fail h2).elim
  ·rename_i m off len cp
   unfold run at h2
   split at h2
   ·rename_i r hr
    dsimp only at h2
    split at h2
    ·rename_i hb1 hb2
     simp only [forceN_eq] at h2
     obtain ⟨s1, s2, H', l', s3, s4⟩ := storeCells_got (B := B) h2 hr
     refine ⟨_, _, _, _, s3, fun x w ty u v hR hu' hv' => ?_⟩
     obtain ⟨vs, k1, k2⟩ := (hold x w v hR hv').src hlen hk
     cases hu' with
     | sl hL hc =>
      rename_i L
      obtain ⟨L', e1, e2, e3, e4, e5, e6, e7⟩ := s4 x w vs hR k1
      rw [hL] at e1; cases e1
      have hrun := run_append_room_src (P := P) w t tx ty e i hu hi L.b (L.s + off) len cp v n vs k2 (ble_le hb1) (fun j hj => by rw [Nat.add_assoc L.s]; exact e5 j hj) (fun j _ => e6 _)
      rw [Nat.add_assoc L.s] at hrun
      exact ⟨_, _, hrun, x, Env.le_refl x, e3, .sl (c := .exact cp) hL (ble_le hb1), e4⟩
    ·rename_i hb1 hb2
     split at h2
     ·rename_i hb3
      simp only [forceN_eq, readK_eq, appL_eq] at h2
      obtain ⟨q1, _, q3, q4, q5, l', q6⟩ := new_got h2
      refine ⟨_, _, _, _, q6, fun x w ty u v hR hu' hv' => ?_⟩
      obtain ⟨vs, k1, k2⟩ := (hold x w v hR hv').src hlen hk
      cases hu' with
      | sl hL hc =>
       rename_i L
       obtain ⟨L', e1, _, hrow⟩ := hR.row m r hr
       rw [hL] at e1; cases e1
       obtain ⟨ovs, o1, o2, o3, o4⟩ := hrow.range (len * i.size) off (ble_le hb2)
       have hcp : cp < len + n := by
        rcases Nat.lt_or_ge cp (len + n) with q | q
        ·exact q
        ·rw [Nat.ble_eq_true_of_le q] at hb1; cases hb1
       refine grow_post (P := P) (ty := ty) (tx := tx) (base := some ⟨L.b, L.s + off, none⟩) hR q4 q5 hu hi hz hzs o1 k1 o2 ?_ k2 hcp (near_of_ble hb3) h1 q1
       exact run_firstCells_some w.drew i.size len ⟨L.b, L.s + off, none⟩ len cp ovs o2 fun j u hj => by
        rw [Addr.add_mid]
        exact o3 j u hj
     ·exact (not_fail h2).elim
    ·exact (not_fail h2).elim
   ·cases h2
  ·rename_i m off len d
   split at h2
   ·refine ⟨_, _, _, _, h2, fun x w ty u v hR hu' hv' => ?_⟩
    obtain ⟨vs, k1, k2⟩ := (hold x w v hR hv').src hlen hk
    have hvs : vs = [] := List.eq_nil_of_length_eq_zero (by rw [k2.newsLen]; simp)
    subst hvs
    cases hu' with
    | sl hL hc =>
     rename_i L
     exact ⟨_, _, run_append_nothing (P := P) w t tx ty e i hu hi _ len _ hc v k2, Post.still hR (.sl hL hc)⟩
   ·rename_i n
    unfold run at h2
    split at h2
    ·rename_i r hr
     dsimp only at h2
     split at h2
     ·rename_i hb1 hb2
      simp only [Bool.and_eq_true] at hb1
      obtain ⟨⟨⟨⟨b1, b2⟩, b3⟩, b4⟩, b5⟩ := hb1
      have b1 := ble_le b1
      have b2 := beq_eq b2
      have b4 := beq_eq b4
      have b5 := beq_eq b5
      have hb2 := near_of_ble hb2
      simp only [forceN_eq, readK_eq, appL_eq] at h2
      unfold run at h2
      split at h2
      ·rename_i r0 hr0 hfm
       simp only [setK_set] at h2
       obtain ⟨q1, _, q3, q4, q5, l', q6⟩ := new_got h2
       have hfm := near_of_ble hfm
       have hmc : m ≠ c := fun e => by subst e; rw [T.get_set _ _ _ _ hfm, if_pos rfl] at q4; cases q4
       have q4' : H.get c = none := by rw [T.get_set _ _ _ _ hfm, if_neg (Ne.symm hmc)] at q4; exact q4
       refine ⟨_, _, _, _, q6, fun x w ty u v hR hu' hv' => ?_⟩
       obtain ⟨vs, k1, k2⟩ := (hold x w v hR hv').src hlen hk
       cases hu' with
       | sl hL hc =>
        rename_i L
        subst b2
        by_cases hroom : len + (n + 1) ≤ L.k - d
        ·exact room_post (P := P) (ty := ty) (tx := tx) hR hr hfm q4' q5 hu hi hL k1 k2 hroom (by omega) b3 b4 b5 b1 q3
        ·obtain ⟨L', e1, _, hrow⟩ := hR.row m r hr
         rw [hL] at e1; cases e1
         obtain ⟨ovs, o1, o2, o3, o4⟩ := hrow.range (len * i.size) (d * i.size) b1
         refine grow_post (P := P) (ty := ty) (tx := tx) (base := some ⟨L.b, L.s + d * i.size, none⟩) (hR.kill hr hfm) q4 q5 hu hi hz hzs o1 k1 o2 ?_ k2 (by show L.k - d < _; omega) hb2 h1 q1
         exact run_firstCells_some w.drew i.size len ⟨L.b, L.s + d * i.size, none⟩ len _ ovs o2 fun j u hj => by
          rw [Addr.add_mid]
          exact o3 j u hj
      ·cases h2
     ·exact (not_fail h2).elim
    ·cases h2
  ·exact (not_fail h2).elim
 ·exact (not_fail h).elim
theorem cloneK_got {t tx e : TypeId} {i : TypeInfo} (hu : P.underlying t = some (.slice e)) (hi : P.info? e = some i) (hk : ∃ e', P.underlying tx = some (.slice e')) {p q : MV} {k : MV → Prg} {els : Prg} {H : Heap} {c : Nat} {l : Log} {out : MV × Heap × Nat × Log} (h : run (cloneK e i p q k els) H c l = some out) :
  (∃ l', run els H c l' = some out) ∨ Got k out fun m H' => ∀ x w ty u v, Rel B x H w → Rnd x p u → Rnd x q v → ∃ r w', (Builtin.append_ #[t, tx] ty #[u, v]).run P w = .ok r w' ∧ Post B x H' m w r w' := by
 unfold cloneK at h
 split at h
 ·rename_i m0 off0 m len cp
  unfold run at h
  split at h
  ·rename_i r hr
   obtain ⟨ty0, esz, size, opn, cs, zero⟩ := r
   dsimp only at h
   split at h
   ·rename_i hb1 hb2
    rw [Bool.and_eq_true, Bool.and_eq_true, Bool.and_eq_true] at hb1
    obtain ⟨⟨⟨b1, b2⟩, b4⟩, b3⟩ := hb1
    have b4 := ble_le b4
    have b1 := beq_eq b1
    have b2 := beq_eq b2
    subst b2
    have hfar := near_of_ble hb2
    have hz0 : ∃ z, i.zero = some z ∧ z.cells.size = i.size := by
     unfold zeroFits at b3
     split at b3
     ·rename_i z hz; exact ⟨z, hz, beq_eq b3⟩
     ·cases b3
    obtain ⟨z, hz, hzs⟩ := hz0
    unfold run at h
    split at h
    ·rename_i q4 q5
     simp only [setK_set, forceN_eq] at h
     have q5 := near_of_ble q5
     refine .inr ⟨_, _, _, _, h, fun x w ty u v hR hp hq => ?_⟩
     cases hp with
     | sl hL0 hc0 =>
      rename_i L0
      cases hq with
      | sl hL hc =>
       rename_i L
       obtain ⟨L', e1, _, hrow⟩ := hR.row m _ hr
       rw [hL] at e1; cases e1
       obtain ⟨vs, k1, k2, k3, k4⟩ := hrow.range ((len + 1) * i.size) 0 (by show 0 + _ ≤ size; omega)
       have hnews : ∀ j u, vs[j]? = some u → w.cell? ((⟨L.b, L.s + 0, none⟩ : Addr).add j) = some u := fun j u hj => by
        rw [Addr.add_mid]; exact k3 j u hj
       obtain ⟨e', hk⟩ := hk
       have hsrc : Src P i.size tx (.slice (some ⟨L.b, L.s + 0, none⟩) (len + 1) (cp.val L)) (len + 1) vs w := Src.ofSlice w hk _ _ _ vs k2 hnews k4
       have hb4 := Nat.mul_add (len + 1) i.bytes i.size
       unfold far at hfar
       have hlen : len + 1 ≤ 1000000000 := by
        have := Nat.le_mul_of_pos_right (len + 1) b4
        omega
       have hfit : Builtin.nextslicecap (0 + (len + 1)) 0 * i.bytes ≤ 281474976710656 := growslice_fits (by omega) (by rw [Nat.zero_add]; omega)
       have hrun := run_append_grow_src (P := P) w t tx ty e i z hu hi hz (some ⟨L0.b, L0.s + off0, none⟩) 0 0 [] (by
        have := run_firstCells_some (P := P) w.drew i.size 0 ⟨L0.b, L0.s + off0, none⟩ 0 0 [] (by simp) (fun j u hj => by simp at hj)
        exact this) (.slice (some ⟨L.b, L.s + 0, none⟩) (len + 1) (cp.val L)) (len + 1) vs hsrc (by omega) (by omega) hfit
       have hge := grownCap_ge w (0 + (len + 1)) 0 e
       have hR' : Rel B x H w.drew := hR.same rfl
       obtain ⟨y, g1, g2, g3⟩ := hR'.new (r := ⟨e, i.size, size, true, cs, zero⟩) (a := ([] ++ vs).toArray ++ Builtin.zeroCells z.cells (grownCap w (0 + (len + 1)) 0 e - (0 + (len + 1)))) (w' := w.drew.alloc (.cells (([] ++ vs).toArray ++ Builtin.zeroCells z.cells (grownCap w (0 + (len + 1)) 0 e - (0 + (len + 1)))) e)) q4 q5
        (heap_alloc_new w.drew _) (fun k hk => Below.heap_alloc w.drew _ k hk) (grownCap w (0 + (len + 1)) 0 e) (fun _ => by
         simp only [Array.size_append, List.size_toArray, List.nil_append, zeroCells_size, hzs, k2]
         rw [← Nat.add_mul]
         exact Nat.mul_le_mul_right _ (by omega)) hrow.small (fun j hj => by
         have hj : j < size := hj
         obtain ⟨v, m1, m2⟩ := k1.get j _ (readL_get _ ((len + 1) * i.size) 0 j (by omega))
         refine ⟨v, ?_, by rw [Nat.zero_add] at m2; exact m2, k4 v (List.mem_of_getElem? m1)⟩
         rw [Array.getElem?_append_left (by simp [k2]; omega)]
         simpa using m1)
       refine ⟨_, _, hrun, y, g1, g3, ?_, (Below.refl B w).drew.alloc hR.base _⟩
       rw [Nat.zero_add] at hge g2 ⊢
       exact .sl (c := .open 0) g2 hge
    ·cases h
   ·exact .inl ⟨_, h⟩
  ·cases h
 ·exact .inl ⟨_, h⟩
theorem appendK_got {t : TypeId} {xt : Option TypeId} {p q : MV} {k : MV → Prg} {H : Heap} {c : Nat} {l : Log} {out : MV × Heap × Nat × Log} (h : run (appendK P t xt p q k) H c l = some out) :
  ∃ tx, xt = some tx ∧ Got k out fun m H' => ∀ x w ty u v, Rel B x H w → Rnd x p u → Rnd x q v → ∃ r w', (Builtin.append_ #[t, tx] ty #[u, v]).run P w = .ok r w' ∧ Post B x H' m w r w' := by
 unfold appendK at h
 split at h
 ·rename_i e i xd he hxd
  obtain ⟨hu, hi⟩ := elemInfo_spec he
  obtain ⟨tx, hxt, hd⟩ := Option.bind_eq_some_iff.1 hxd
  refine ⟨tx, hxt, ?_⟩
  split at h
  ·rcases cloneK_got (B := B) hu hi ⟨_, hd⟩ h with ⟨l', h⟩ | h
   ·exact appendC_got hu hi (.inl ⟨_, hd⟩) h
   ·exact h
  ·exact appendC_got hu hi (.inr hd) h
  ·exact (not_fail h).elim
 ·exact (not_fail h).elim
end Go.Proofs.YtbbbflnnbbaamaaGreatDoor.Mini
