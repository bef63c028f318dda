/- Maps read as functions. -/
import Derived.Test.YtjfpaelmcepidaaKD
import Derived.Maps.OwnSet
import Derived.Maps.OwnOps
import Derived.Maps.RangeWalk
import Derived.Maps.Ext
import Derived.Test.YtjfpaelmcepidaaKR
import Derived.DeepKeys4
namespace Go.Proofs.Ytjfpaelmcepidaa.PK
open Go.RowKit Go.Maps

theorem nodup_le {α : Type} : ∀ {l N : List α}, l.Nodup → (∀ a ∈ l, a ∈ N) → l.length ≤ N.length
  | [], _, _, _ => Nat.zero_le _
  | x :: l, N, hn, hs => by
    obtain ⟨p, q, rfl⟩ := List.append_of_mem (hs x (by simp))
    rw [List.nodup_cons] at hn
    have := nodup_le (l := l) (N := p ++ q) hn.2 fun a ha => by
      have h1 := hs a (by simp [ha])
      rw [List.mem_append, List.mem_cons] at h1
      rw [List.mem_append]
      rcases h1 with h1 | rfl | h1
      · exact .inl h1
      · exact absurd ha hn.1
      · exact .inr h1
    simp only [List.length_append, List.length_cons] at *
    omega
def updF {α β : Type} [DecidableEq α] (f : α → Option β) (a : α) (y : β) : α → Option β := fun x => if x = a then some y else f x
def delF {α β : Type} [DecidableEq α] (f : α → Option β) (a : α) : α → Option β := fun x => if x = a then none else f x
/-- A datum reads as a function. -/
structure MapM {α β : Type} (key : α → Lit) (vl : β → Lit) (V : α → Prop) (D : DataW Unit) (f : α → Option β) (l : List α) : Prop where
  tidy : Tidy D
  nd : l.Nodup
  ok : ∀ a ∈ l, V a
  mem : ∀ a, a ∈ l ↔ (f a).isSome = true
  has : ∀ k, Maps.has D k = true ↔ ∃ a ∈ l, k = key a
  val : ∀ a y, f a = some y → ∀ z, D.atKey (key a) z = .lit (vl y)
  size : Maps.size D = l.length
theorem MapM.empty {α β : Type} (key : α → Lit) (vl : β → Lit) (V : α → Prop) : MapM key vl V (.map []) (fun _ => none) [] := by
  refine ⟨tidy_empty, List.nodup_nil, fun _ h => (by cases h), fun a => ?_, fun k => ?_, fun _ _ h => (by cases h), rfl⟩
  · constructor <;> intro h <;> cases h
  · constructor
    · intro h; cases h
    · rintro ⟨_, h, _⟩; cases h
/-- What keys of a type are. -/
structure KeyKind {α : Type} (P : Program) (k : TypeId) (key : α → Lit) (mkK : α → Value) (V : α → Prop) : Prop where
  law : Keyed P k
  of : ∀ a, V a → keyOf P k (mkK a) = some (key a)
  lit : ∀ a, WideAt.IsKeyLit (key a)
  inj : ∀ a b, mkK a = mkK b → a = b
theorem KeyKind.key_inj {α : Type} {P : Program} {k : TypeId} {key : α → Lit} {mkK : α → Value} {V : α → Prop} (K : KeyKind P k key mkK V) {a b : α} (ha : V a) (hb : V b) (h : key a = key b) : a = b :=
  K.inj a b (K.law.inj (K.of a ha) (by rw [h]; exact K.of b hb))
/-- What elements of a type are. -/
structure ElemKind {β : Type} (P : Program) (e : TypeId) (vl : β → Lit) (mkV : β → Value) (U : β → Prop) : Prop where
  of : ∀ y, U y → plainElem (H := Unit) P e (mkV y) = some (.lit (vl y), [])
  inv : ∀ v y ps, plainElem (H := Unit) P e v = some (.lit (vl y), ps) → v = mkV y
section
variable {α β : Type} {P : Program} {k e : TypeId} {key : α → Lit} {vl : β → Lit} {mkK : α → Value} {mkV : β → Value} {V : α → Prop} {U : β → Prop}
theorem MapM.has_some (K : KeyKind P k key mkK V) {D : DataW Unit} {f : α → Option β} {l : List α} (h : MapM key vl V D f l) {a : α} (ha : V a) : Maps.has D (key a) = (f a).isSome := by
  rw [Bool.eq_iff_iff, h.has, ← h.mem]
  constructor
  · rintro ⟨b, hb, e⟩
    rwa [K.key_inj ha (h.ok b hb) e]
  · intro hm
    exact ⟨a, hm, rfl⟩
theorem MapM.put [DecidableEq α] (K : KeyKind P k key mkK V) {D : DataW Unit} {f : α → Option β} {l : List α} (h : MapM key vl V D f l) {a : α} (ha : V a) (y : β) : ∃ l', MapM key vl V (D.put (key a) (.lit (vl y))) (updF f a y) l' := by
  have hh := h.has_some K ha
  refine ⟨if (f a).isSome then l else l ++ [a], h.tidy.put (K.lit a) _, ?_, fun b hb => ?_, fun b => ?_, fun kl => ?_, fun b z hz => ?_, ?_⟩
  · split
    · exact h.nd
    · rename_i hn
      rw [List.nodup_append]
      refine ⟨h.nd, by simp, fun x hx b hb => ?_⟩
      obtain rfl : b = a := by simpa using hb
      intro ee; subst ee
      exact hn ((h.mem x).1 hx)
  · split at hb
    · exact h.ok b hb
    · rcases List.mem_append.1 hb with hb | hb
      · exact h.ok b hb
      · obtain rfl : b = a := by simpa using hb
        exact ha
  · unfold updF
    split
    · rename_i hs
      by_cases c : b = a
      · subst c; simp [(h.mem b).2 hs]
      · rw [if_neg c]; exact h.mem b
    · by_cases c : b = a
      · subst c; simp
      · rw [if_neg c, ← h.mem b, List.mem_append]
        simp [c]
  · by_cases c : kl = key a
    · subst c
      rw [has_put_same h.tidy.isMap (K.lit a)]
      simp only [true_iff]
      refine ⟨a, ?_, rfl⟩
      split
      · rename_i hs; exact (h.mem a).2 hs
      · simp
    · rw [has_put_other c, h.has]
      split
      · rfl
      · constructor
        · rintro ⟨b, hb, e⟩; exact ⟨b, List.mem_append_left _ hb, e⟩
        · rintro ⟨b, hb, e⟩
          rcases List.mem_append.1 hb with hb | hb
          · exact ⟨b, hb, e⟩
          · obtain rfl : b = a := by simpa using hb
            exact absurd e c
  · unfold updF at hz
    by_cases c : b = a
    · subst c
      rw [if_pos rfl] at hz
      cases hz
      intro z
      exact atKey_put_same h.tidy.isMap (K.lit b) _ _
    · rw [if_neg c] at hz
      intro z'
      rw [atKey_put_other fun e => c (K.key_inj (h.ok b ((h.mem b).2 (by rw [hz]; rfl))) ha e)]
      exact h.val b z hz z'
  · rw [size_put h.tidy, hh, h.size]
    split <;> simp
theorem MapM.del [DecidableEq α] (K : KeyKind P k key mkK V) {D : DataW Unit} {f : α → Option β} {l : List α} (h : MapM key vl V D f l) {a : α} (ha : V a) : ∃ l', MapM key vl V (D.del (key a)) (delF f a) l' := by
  have hh := h.has_some K ha
  have hmem : ∀ b, b ∈ l.filter (fun x => !decide (x = a)) ↔ b ∈ l ∧ b ≠ a := fun b => by simp [List.mem_filter]
  refine ⟨l.filter (fun x => !decide (x = a)), h.tidy.del _, h.nd.filter _, fun b hb => h.ok b ((hmem b).1 hb).1, fun b => ?_, fun kl => ?_, fun b z hz => ?_, ?_⟩
  · rw [hmem, h.mem]
    unfold delF
    by_cases c : b = a
    · rw [if_pos c]; simp [c]
    · rw [if_neg c]; simp [c]
  · by_cases c : kl = key a
    · subst c
      rw [has_del_same]
      constructor
      · intro h; cases h
      · rintro ⟨b, hb, e⟩
        obtain ⟨h1, h2⟩ := (hmem b).1 hb
        exact absurd (K.key_inj (h.ok b h1) ha e.symm) h2
    · rw [has_del_other c, h.has]
      constructor
      · rintro ⟨b, hb, e⟩
        exact ⟨b, (hmem b).2 ⟨hb, fun e2 => c (by rw [e, e2])⟩, e⟩
      · rintro ⟨b, hb, e⟩
        exact ⟨b, ((hmem b).1 hb).1, e⟩
  · unfold delF at hz
    by_cases c : b = a
    · rw [if_pos c] at hz; cases hz
    · rw [if_neg c] at hz
      intro z'
      rw [atKey_del_other fun e => c (K.key_inj (h.ok b ((h.mem b).2 (by rw [hz]; rfl))) ha e)]
      exact h.val b z hz z'
  · have h1 := size_del (k := key a) h.tidy
    rw [hh, h.size] at h1
    have h2 : (l.filter (fun x => !decide (x = a))).length + (if (f a).isSome = true then 1 else 0) = l.length := by
      have hc := h.nd.count (a := a)
      have h3 : l.length = (l.filter (fun x => !decide (x = a))).length + l.count a := by
        have := List.length_eq_countP_add_countP (fun x => x == a) (l := l)
        rw [List.countP_eq_length_filter (p := fun x => decide ¬ (x == a) = true)] at this
        have e : l.filter (fun x => decide ¬ (x == a) = true) = l.filter (fun x => !decide (x = a)) := by
          congr 1; funext x; simp
        rw [e] at this
        unfold List.count
        omega
      rw [h3, hc]
      by_cases c : a ∈ l
      · rw [if_pos c, if_pos ((h.mem a).1 c)]
      · rw [if_neg c, if_neg fun hs => c ((h.mem a).2 hs)]
    omega
theorem MapM.congr {D : DataW Unit} {f g : α → Option β} {l : List α} (h : MapM key vl V D f l) (he : ∀ a, f a = g a) : MapM key vl V D g l := by
  obtain rfl : f = g := funext he
  exact h
theorem owns_shrink {w : World} {b n : Nat} {D : DataW Unit} {R : Value → Option (DataW Unit × List MemPlace)} (h : w.ownsMap P k R b n D) : w.ownsMap P k R b (Maps.size D) D := by
  obtain ⟨es, clock, hb, F, _, rfl⟩ := h
  exact ⟨es, clock, hb, F, by show es.size ≤ List.length _; rw [length_sorted]; simp, rfl⟩
/-- A block is a map that reads as a function. -/
def MapAt (P : Program) (k e : TypeId) (key : α → Lit) (vl : β → Lit) (V : α → Prop) (w : World) (b : Nat) (f : α → Option β) : Prop :=
  ∃ D l, w.ownsMap P k (plainElem P e) b (Maps.size D) D ∧ MapM key vl V D f l
variable {w w' : World} {b : Nat} {f : α → Option β}
theorem MapAt.lt (h : MapAt P k e key vl V w b f) : b < w.heap.size := by
  obtain ⟨D, l, h, _⟩ := h; exact h.lt
theorem MapAt.kept {row : Option Nat} (h : MapAt P k e key vl V w b f) (hg : w.grownBy w' row) (hne : some b ≠ row) : MapAt P k e key vl V w' b f := by
  obtain ⟨D, l, h, m⟩ := h; exact ⟨D, l, h.kept hg hne, m⟩
theorem MapAt.below (h : MapAt P k e key vl V w b f) (hb : Below w.heap.size w w') : MapAt P k e key vl V w' b f :=
  h.kept (row := none) ⟨hb.os, hb.tape, hb.output, hb.size, fun i hi _ => hb.block i hi⟩ (by simp)
theorem MapAt.alloc (h : MapAt P k e key vl V w b f) (o : Obj) : MapAt P k e key vl V (w.alloc o) b f := by
  obtain ⟨D, l, h, m⟩ := h; exact ⟨D, l, h.alloc o, m⟩
theorem MapAt.congr {g : α → Option β} (h : MapAt P k e key vl V w b f) (he : ∀ a, f a = g a) : MapAt P k e key vl V w b g := by
  obtain ⟨D, l, h, m⟩ := h; exact ⟨D, l, h, m.congr he⟩
theorem MapAt.made (P : Program) (k e : TypeId) (key : α → Lit) (vl : β → Lit) (V : α → Prop) (w : World) : MapAt P k e key vl V (w.alloc (.map #[] 0)) w.heap.size (fun _ => (none : Option β)) :=
  ⟨.map [], [], World.ownsMap_made _ _ _ _, MapM.empty _ _ _⟩
/-- A cell does not lie in a map. -/
theorem MapAt.ne (h : MapAt P k e key vl V w b f) {q j : Nat} {v : Value} (hc : w.cell? ⟨q, j, none⟩ = some v) : q ≠ b := by
  obtain ⟨D, l, ⟨es, cl, hb, _⟩, _⟩ := h
  rintro rfl
  unfold World.cell? at hc
  rw [hb] at hc
  cases hc
/-- How many keys there are. -/
theorem MapM.few {D : DataW Unit} {l : List α} (h : MapM key vl V D f l) {N : List α} (hN : ∀ a, V a → a ∈ N) : Maps.size D ≤ N.length := by
  rw [h.size]
  exact nodup_le h.nd fun a ha => hN a (h.ok a ha)
end

/-! ### The laws at the operations -/
section
variable {α β : Type} {P : Program} {k e : TypeId} {key : α → Lit} {vl : β → Lit} {mkK : α → Value} {mkV : β → Value} {V : α → Prop} {U : β → Prop}
variable {ops : Array Oper} {rest : List Oper} {o : Oper} {a : Act} {Q : Exit → Act → World → Prop}
theorem wpList_put_map [DecidableEq α] (w : World) (hg : o.guard = none) (m x v : Operand) (t : TypeId) (hop : o.op = Op.mapUpdate t m x v) (ht : P.underlying t = some (.map k e))
    (K : KeyKind P k key mkK V) (E : ElemKind P e vl mkV U) (N : List α) (hN : ∀ a, V a → a ∈ N) (hNl : N.length < maxLen) (b : Nat) (f : α → Option β) (h : MapAt P k e key vl V w b f) (hm : a.eval m = .map (some b)) (x0 : α) (y0 : β) (hV : V x0) (hU : U y0) (hx : a.eval x = mkK x0) (hv : a.eval v = mkV y0)
    (hK : ∀ w', MapAt P k e key vl V w' b (updF f x0 y0) → w.grownBy w' (some b) → wpList P ops Q rest (a.put o.dst undef) w') : wpList P ops Q (o :: rest) a w := by
  obtain ⟨D, l, ho, hM⟩ := h
  refine wpList_mapUpdate_own w hg m x v t hop k e K.law ht (plainElem P e) b _ D hm ho (Nat.lt_of_le_of_lt (hM.few hN) hNl) _ _ (key x0) hx hv (K.of x0 hV) (.lit (vl y0)) [] (E.of y0 hU) fun w' ho' hg' => ?_
  obtain ⟨l', hM'⟩ := hM.put K hV y0
  exact hK w' ⟨_, l', owns_shrink ho', hM'⟩ hg'
theorem wpList_del_map [DecidableEq α] (w : World) (hg : o.guard = none) (m x : Operand) (t : TypeId) (hop : o.op = Op.call { callee := Callee.builtin Builtin.delete, args := #[m, x], argTypes := #[t, k] }) (ht : P.underlying t = some (.map k e))
    (K : KeyKind P k key mkK V) (b : Nat) (f : α → Option β) (h : MapAt P k e key vl V w b f) (hm : a.eval m = .map (some b)) (x0 : α) (hV : V x0) (hx : a.eval x = mkK x0)
    (hK : ∀ w', MapAt P k e key vl V w' b (delF f x0) → w.mapTurned w' b → wpList P ops Q rest (a.put o.dst (.tuple #[])) w') : wpList P ops Q (o :: rest) a w := by
  obtain ⟨D, l, ho, hM⟩ := h
  refine wpList_delete_own w hg m x t k hop e K.law ht (plainElem P e) b _ D hm ho _ (key x0) hx (K.of x0 hV) fun w' ho' hg' => ?_
  obtain ⟨l', hM'⟩ := hM.del K hV
  exact hK w' ⟨_, l', owns_shrink ho', hM'⟩ hg'
/-- A range over a map under way. -/
def RangeAt (P : Program) (k e : TypeId) (key : α → Lit) (vl : β → Lit) (V : α → Prop) (w : World) (b r : Nat) (f : α → Option β) (left : Lit → Bool) (cnt : Nat) : Prop :=
  ∃ D l, w.ranges P k (plainElem P e) b r (Maps.size D) D left cnt ∧ MapM key vl V D f l
theorem RangeAt.lt {w : World} {b r cnt : Nat} {f : α → Option β} {left : Lit → Bool} (h : RangeAt P k e key vl V w b r f left cnt) : r < w.heap.size := by
  obtain ⟨D, l, h, _⟩ := h; exact h.lt
theorem RangeAt.ne {w : World} {b r cnt : Nat} {f : α → Option β} {left : Lit → Bool} (h : RangeAt P k e key vl V w b r f left cnt) : r ≠ b := by
  obtain ⟨D, l, h, _⟩ := h; exact h.ne
theorem RangeAt.map {w : World} {b r cnt : Nat} {f : α → Option β} {left : Lit → Bool} (h : RangeAt P k e key vl V w b r f left cnt) : MapAt P k e key vl V w b f := by
  obtain ⟨D, l, h, m⟩ := h; exact ⟨D, l, h.owns, m⟩
theorem RangeAt.left_eq {w : World} {b r cnt : Nat} {f : α → Option β} {left : Lit → Bool} (h : RangeAt P k e key vl V w b r f left cnt) : w.rangeLeft b r = cnt := by
  obtain ⟨D, l, h, _⟩ := h; exact h.left_eq
theorem RangeAt.kept {w w' : World} {b r cnt : Nat} {f : α → Option β} {left : Lit → Bool} {row : Option Nat} (h : RangeAt P k e key vl V w b r f left cnt) (hg : w.grownBy w' row) (hb : some b ≠ row) (hr : some r ≠ row) : RangeAt P k e key vl V w' b r f left cnt := by
  obtain ⟨D, l, h, m⟩ := h; exact ⟨D, l, h.kept hg hb hr, m⟩
theorem RangeAt.alloc {w : World} {b r cnt : Nat} {f : α → Option β} {left : Lit → Bool} (h : RangeAt P k e key vl V w b r f left cnt) (o : Obj) : RangeAt P k e key vl V (w.alloc o) b r f left cnt := by
  obtain ⟨D, l, h, m⟩ := h; exact ⟨D, l, h.alloc o, m⟩
/-- What has been handed out. -/
structure CollS (key : α → Lit) (f : α → Option β) (left : Lit → Bool) (zs : List α) : Prop where
  nd : zs.Nodup
  mem : ∀ a, a ∈ zs ↔ (f a).isSome = true ∧ left (key a) = false
theorem wpList_range_map (w : World) (hg : o.guard = none) (m : Operand) (t : TypeId) (hop : o.op = Op.range t m) (ht : P.underlying t = some (.map k e)) (K : KeyKind P k key mkK V) (b : Nat) (f : α → Option β) (h : MapAt P k e key vl V w b f) (hm : a.eval m = .map (some b))
    (hK : ∀ w' left cnt, RangeAt P k e key vl V w' b w.heap.size f left cnt → CollS key f left [] → w.grownBy w' none → w'.heap.size = w.heap.size + 1 → wpList P ops Q rest (a.put o.dst (.pointer (some ⟨w.heap.size, 0, none⟩))) w') : wpList P ops Q (o :: rest) a w := by
  obtain ⟨D, l, ho, hM⟩ := h
  refine wpList_range_own w hg m t hop k e K.law ht (plainElem P e) b _ D hm ho fun w' hr hg' hs => ?_
  refine hK w' _ _ ⟨D, l, hr, hM⟩ ⟨List.nodup_nil, fun x => ?_⟩ hg' hs
  constructor
  · intro h; cases h
  · rintro ⟨h1, h2⟩
    rw [(hM.has _).2 ⟨x, (hM.mem x).2 h1, rfl⟩] at h2; cases h2
theorem wpList_next_map (w : World) (hg : o.guard = none) (it : Operand) (hop : o.op = Op.next it false) (K : KeyKind P k key mkK V) (E : ElemKind P e vl mkV U) (b r cnt : Nat) (f : α → Option β) (left : Lit → Bool) (hit : a.eval it = .pointer (some ⟨r, 0, none⟩)) (h : RangeAt P k e key vl V w b r f left cnt)
    (hDone : (∀ kl, left kl = false) → wpList P ops Q rest (a.put o.dst (.tuple #[.bool false])) w)
    (hMore : ∀ (x : α) (y : β) (w' : World) (cnt' : Nat), V x → f x = some y → left (key x) = true → RangeAt P k e key vl V w' b r f (fun z => left z && !z.sameKey (key x)) cnt' → cnt' < cnt → w.grownBy w' (some r) → w'.heap.size = w.heap.size →
      (Instr.entry (.pointer (some ⟨r, 0, none⟩))).run P w' = .ok (.tuple #[mkK x, mkV y]) w' → wpList P ops Q rest (a.put o.dst (.tuple #[.bool true, mkK x, mkV y])) w') : wpList P ops Q (o :: rest) a w := by
  obtain ⟨D, l, hr, hM⟩ := h
  refine wpList_plain hg fun K' hK' => ?_
  unfold Oper.wp
  rcases hr.next K.law o.type with ⟨h0, hl, hrun⟩ | ⟨kv, v, kl, y, w', cnt', hkey, hlk, hv, hat, hrun, hrg, hlt, hgr, hsz, hen⟩
  · simp [execOp, hop, hit, hrun, Result.andThen]
    exact hK' _ _ (hDone hl)
  · obtain ⟨x, hx, rfl⟩ := (hM.has kl).1 (has_true_of_atKey hat)
    obtain ⟨z, hz⟩ := Option.isSome_iff_exists.1 ((hM.mem x).1 hx)
    have hVx := hM.ok x hx
    obtain rfl : kv = mkK x := K.law.inj hkey (K.of x hVx)
    have hy : y.1 = .lit (vl z) := by rw [← hat .nil]; exact hM.val x z hz .nil
    obtain ⟨y1, y2⟩ := y
    obtain rfl : y1 = .lit (vl z) := hy
    obtain rfl : v = mkV z := E.inv v z y2 hv
    simp [execOp, hop, hit, hrun, Result.andThen]
    exact hK' _ _ (hMore x z w' cnt' hVx hz hlk ⟨D, l, hrg, hM⟩ hlt hgr hsz hen)
theorem CollS.step {f : α → Option β} {left : Lit → Bool} {zs : List α} {x : α} {y : β} {D : DataW Unit} {l : List α} (K : KeyKind P k key mkK V) (hM : MapM key vl V D f l) (h : CollS key f left zs) (hf : f x = some y) (hl : left (key x) = true) : CollS key f (fun z => left z && !z.sameKey (key x)) (zs ++ [x]) := by
  have hx : V x := hM.ok x ((hM.mem x).2 (by rw [hf]; rfl))
  refine ⟨?_, fun z => ?_⟩
  · rw [List.nodup_append]
    refine ⟨h.nd, by simp, fun p hp q hq => ?_⟩
    obtain rfl : q = x := by simpa using hq
    rintro rfl
    have := ((h.mem p).1 hp).2
    rw [hl] at this; cases this
  · rw [List.mem_append, List.mem_singleton, h.mem]
    have hs : (f z).isSome = true → ((key z).sameKey (key x) = true ↔ z = x) := fun hz => by
      rw [WideAt.sameKey_iff (K.lit x)]
      exact ⟨fun e => K.key_inj (hM.ok z ((hM.mem z).2 hz)) hx e, fun e => by rw [e]⟩
    constructor
    · rintro (⟨h1, h2⟩ | rfl)
      · exact ⟨h1, by show (left _ && _) = false; rw [h2]; rfl⟩
      · have h1 : (f z).isSome = true := by rw [hf]; rfl
        refine ⟨h1, ?_⟩
        show (left _ && !_) = false
        rw [(hs h1).2 rfl]; simp
    · rintro ⟨h1, h2⟩
      have h2' : (left (key z) && !(key z).sameKey (key x)) = false := h2
      cases hz : left (key z)
      · exact .inl ⟨h1, rfl⟩
      · rw [hz, Bool.true_and, Bool.not_eq_false'] at h2'
        exact .inr ((hs h1).1 h2')
theorem RangeAt.coll {w : World} {b r cnt : Nat} {f : α → Option β} {left : Lit → Bool} {zs : List α} {x : α} {y : β} (K : KeyKind P k key mkK V) (h : RangeAt P k e key vl V w b r f left cnt) (hc : CollS key f left zs) (hf : f x = some y) (hl : left (key x) = true) : CollS key f (fun z => left z && !z.sameKey (key x)) (zs ++ [x]) := by
  obtain ⟨D, l, _, hM⟩ := h
  exact hc.step K hM hf hl
theorem CollS.few {f : α → Option β} {left : Lit → Bool} {zs : List α} (h : CollS key f left zs) {N : List α} (hN : ∀ a, (f a).isSome = true → a ∈ N) : zs.length ≤ N.length :=
  nodup_le h.nd fun a ha => hN a ((h.mem a).1 ha).1
theorem CollS.fin {f : α → Option β} {left : Lit → Bool} {zs : List α} (h : CollS key f left zs) (hl : ∀ kl, left kl = false) (a : α) : a ∈ zs ↔ (f a).isSome = true := by
  rw [h.mem]; simp [hl]
end
end Go.Proofs.Ytjfpaelmcepidaa.PK
namespace Go.Proofs.Ytjfpaelmcepidaa.PK
open Go.RowKit Go.Maps

theorem laidOutP : laidOutB Try.prog = true := by kernel_rfl
theorem wf_of {n : Int} (h0 : 0 ≤ n) (h1 : n < 1000) : (Lit.int .i64 n).wf = true := by
  simp [Lit.wf, IntKind.min, IntKind.max, IntKind.bits, IntKind.signed]
  omega
/-- A number that may be a key. -/
def KV (x : Int) : Prop := 0 ≤ x ∧ x < 1000
def keyI (x : Int) : Lit := .int .i64 x
theorem intKind : KeyKind Try.prog 3 keyI (Value.int .i64) KV where
  law := int_keyed Try.underlying3
  of x h := keyOf_int_mk Try.underlying3 (wf_of h.1 h.2)
  lit _ := trivial
  inj a b h := by simpa using h
def allI : List Int := (List.range 1000).map fun n : Nat => (n : Int)
theorem allI_mem (x : Int) (h : KV x) : x ∈ allI := by
  unfold allI
  rw [List.mem_map]
  exact ⟨x.toNat, List.mem_range.2 (by have := h.2; have := h.1; omega), by have := h.1; omega⟩
theorem allI_thousand : allI.length = 1000 := by
  unfold allI
  rw [List.length_map, List.length_range]
theorem allI_len : allI.length < maxLen := by rw [allI_thousand]; unfold maxLen; omega
/-- A pair that may be a key. -/
def PV (p : Int × Int) : Prop := KV p.1 ∧ KV p.2
def keyP (p : Int × Int) : Lit := .string (keyBytes [.int .i64 p.1, .int .i64 p.2])
def valP (p : Int × Int) : Value := .agg #[.int .i64 p.1, .int .i64 p.2]
theorem pairLaw : Keyed Try.prog 79 := Keyed.of_law (deep_law_laid laidOutP (m := 2) (by omega) (of_decide_eq_true (by kernel_rfl)) (by kernel_rfl) (by kernel_rfl))
theorem keyOf_pair (p : Int × Int) (h : PV p) : keyOf Try.prog 79 (valP p) = some (keyP p) := by
  obtain ⟨⟨a0, a1⟩, b0, b1⟩ := h
  have w0 := wf_of a0 a1
  have w1 := wf_of b0 b1
  have hk : Try.prog.keyType 79 = true := by kernel_rfl
  have c1 : Try.prog.cellsOf 3 = 1 := by kernel_rfl
  have c2 : Try.prog.cellsOf 79 = 2 := by kernel_rfl
  have hf : (valP p).formed Try.prog 79 = true := by
    unfold Value.formed valP
    rw [Try.underlying79]
    simp [c2]
  unfold keyOf
  rw [Try.underlying79]
  simp only [hk, hf, Bool.and_self, if_true]
  have hl : Try.prog.keyLits (Try.prog.types.size + 1) 79 (valP p).cells.toList = some [.int .i64 p.1, .int .i64 p.2] := by
    obtain ⟨d, hd⟩ : ∃ d, Try.prog.types.size = d + 1 := Nat.exists_eq_succ_of_ne_zero (Nat.ne_of_gt (of_decide_eq_true (by kernel_rfl : decide (0 < Try.prog.types.size) = true)))
    rw [hd]
    show Try.prog.keyLits (d + 1 + 1) 79 [.int .i64 p.1, .int .i64 p.2] = _
    simp [Program.keyLits, Try.underlying79, Try.underlying3, c1, c2, w0, w1, List.range, List.range.loop]
  rw [hl]
  rfl
theorem pairKind : KeyKind Try.prog 79 keyP valP PV where
  law := pairLaw
  of p h := keyOf_pair p h
  lit _ := trivial
  inj p q h := by
    unfold valP at h
    simp only [Value.agg.injEq, Array.mk.injEq, List.cons.injEq, Value.int.injEq, true_and, and_true] at h
    exact Prod.ext h.1 h.2
def allP : List (Int × Int) := allI.flatMap fun x => allI.map fun y => (x, y)
theorem allP_mem (p : Int × Int) (h : PV p) : p ∈ allP := by
  unfold allP
  rw [List.mem_flatMap]
  exact ⟨p.1, allI_mem _ h.1, List.mem_map.2 ⟨p.2, allI_mem _ h.2, rfl⟩⟩
theorem allP_len : allP.length < maxLen := by
  have h : ∀ l : List Int, (l.flatMap fun x => allI.map fun y => (x, y)).length = l.length * 1000 := fun l => by
    induction l with
    | nil => rfl
    | cons x l ih =>
      rw [List.flatMap_cons, List.length_append, ih, List.length_map, List.length_cons]
      rw [allI_thousand]
      omega
  unfold allP
  rw [h, allI_thousand]
  unfold maxLen; omega
/-- Elements of a set: always true. -/
def litT (_ : Unit) : Lit := .bool true
def valT (_ : Unit) : Value := .bool true
theorem boolElem_inv {P : Program} {e : TypeId} (he : P.underlying e = some .bool) {v : Value} {ps : List MemPlace} (h : plainElem (H := Unit) P e v = some (.lit (.bool true), ps)) : v = .bool true := by
  unfold plainElem at h
  rw [he] at h
  cases v
  case bool x =>
    have h2 : some (DataW.lit (Lit.bool x), ([] : List MemPlace)) = some ((.lit (.bool true) : DataW Unit), ps) := h
    injection h2 with h3
    injection h3 with h4 _
    injection h4 with h5
    injection h5 with h6
    rw [h6]
  all_goals (exact absurd h (by intro h; cases h))
theorem boolKind : ElemKind Try.prog 4 litT valT (fun _ => True) where
  of _ _ := plainElem_bool Try.underlying4 true
  inv _ _ _ h := boolElem_inv Try.underlying4 h
/-- A block is a set of numbers. -/
def SetI (w : World) (b : Nat) (S : Int → Prop) : Prop := ∃ f : Int → Option Unit, MapAt Try.prog 3 4 keyI litT KV w b f ∧ ∀ x, (f x).isSome = true ↔ S x
/-- A block is a set of pairs. -/
def SetP (w : World) (b : Nat) (S : Int × Int → Prop) : Prop := ∃ f : Int × Int → Option Unit, MapAt Try.prog 79 4 keyP litT PV w b f ∧ ∀ x, (f x).isSome = true ↔ S x
theorem SetI.congr {w : World} {b : Nat} {S S' : Int → Prop} (h : SetI w b S) (he : ∀ x, S x ↔ S' x) : SetI w b S' := by
  obtain ⟨f, h1, h2⟩ := h
  exact ⟨f, h1, fun x => (h2 x).trans (he x)⟩
theorem SetP.congr {w : World} {b : Nat} {S S' : Int × Int → Prop} (h : SetP w b S) (he : ∀ x, S x ↔ S' x) : SetP w b S' := by
  obtain ⟨f, h1, h2⟩ := h
  exact ⟨f, h1, fun x => (h2 x).trans (he x)⟩
theorem SetI.kept {w w' : World} {b : Nat} {S : Int → Prop} {row : Option Nat} (h : SetI w b S) (hg : w.grownBy w' row) (hne : some b ≠ row) : SetI w' b S := by
  obtain ⟨f, h1, h2⟩ := h
  exact ⟨f, h1.kept hg hne, h2⟩
theorem SetP.kept {w w' : World} {b : Nat} {S : Int × Int → Prop} {row : Option Nat} (h : SetP w b S) (hg : w.grownBy w' row) (hne : some b ≠ row) : SetP w' b S := by
  obtain ⟨f, h1, h2⟩ := h
  exact ⟨f, h1.kept hg hne, h2⟩
theorem SetI.below {w w' : World} {b : Nat} {S : Int → Prop} (h : SetI w b S) (hb : Below w.heap.size w w') : SetI w' b S := by
  obtain ⟨f, h1, h2⟩ := h
  exact ⟨f, h1.below hb, h2⟩
theorem SetP.below {w w' : World} {b : Nat} {S : Int × Int → Prop} (h : SetP w b S) (hb : Below w.heap.size w w') : SetP w' b S := by
  obtain ⟨f, h1, h2⟩ := h
  exact ⟨f, h1.below hb, h2⟩
theorem grown_save {w w' : World} {q : Nat} (h : Save q w w') : w.grownBy w' (some q) := ⟨h.os, h.tape, h.output, h.size, fun i hi hn => h.block i hi (fun e => hn (by rw [e]))⟩
theorem save_grownB {w w' : World} {q : Nat} (h : w.grownBy w' (some q)) : Save q w w' := ⟨h.os, h.tape, h.output, h.size, fun i hi hn => h.block i hi (by simp; exact hn)⟩
theorem SetI.save {w w' : World} {b q : Nat} {S : Int → Prop} (h : SetI w b S) (hs : Save q w w') (hne : b ≠ q) : SetI w' b S := h.kept (grown_save hs) (by simp; exact hne)
theorem SetI.lt {w : World} {b : Nat} {S : Int → Prop} (h : SetI w b S) : b < w.heap.size := by
  obtain ⟨f, h1, _⟩ := h; exact h1.lt
theorem SetP.lt {w : World} {b : Nat} {S : Int × Int → Prop} (h : SetP w b S) : b < w.heap.size := by
  obtain ⟨f, h1, _⟩ := h; exact h1.lt
theorem SetP.ne {w : World} {b : Nat} {S : Int × Int → Prop} (h : SetP w b S) {q j : Nat} {v : Value} (hc : w.cell? ⟨q, j, none⟩ = some v) : q ≠ b := by
  obtain ⟨f, h1, _⟩ := h; exact h1.ne hc
theorem SetI.ne {w : World} {b : Nat} {S : Int → Prop} (h : SetI w b S) {q j : Nat} {v : Value} (hc : w.cell? ⟨q, j, none⟩ = some v) : q ≠ b := by
  obtain ⟨f, h1, _⟩ := h; exact h1.ne hc
theorem SetI.made (w : World) : SetI (w.alloc (.map #[] 0)) w.heap.size (fun _ => False) := ⟨_, MapAt.made _ _ _ _ _ _ w, fun x => by simp⟩
theorem SetP.made (w : World) : SetP (w.alloc (.map #[] 0)) w.heap.size (fun _ => False) := ⟨_, MapAt.made _ _ _ _ _ _ w, fun x => by simp⟩
theorem updF_some {α β : Type} [DecidableEq α] (f : α → Option β) (a : α) (y : β) (x : α) : (updF f a y x).isSome = true ↔ x = a ∨ (f x).isSome = true := by
  unfold updF
  by_cases c : x = a
  · simp [c]
  · simp [c]
theorem delF_some {α β : Type} [DecidableEq α] (f : α → Option β) (a : α) (x : α) : (delF f a x).isSome = true ↔ x ≠ a ∧ (f x).isSome = true := by
  unfold delF
  by_cases c : x = a
  · simp [c]
  · simp [c]
end Go.Proofs.Ytjfpaelmcepidaa.PK
namespace Go.Proofs.Ytjfpaelmcepidaa.PK
open Go.RowKit Go.Maps

theorem lit_int_eq {q : IntKind} {a b : Int} {ps : List MemPlace} (h : ((DataW.lit (.int q a) : DataW Unit), ps) = (.lit (.int q b), [])) : b = a := by
  have h1 := (Prod.mk.inj h).1
  have h2 := DataW.lit.inj h1
  exact (Lit.int.inj h2).2.symm
def litI (y : Int) : Lit := .int .i64 y
def WfI (y : Int) : Prop := -9223372036854775808 ≤ y ∧ y ≤ 9223372036854775807
theorem intElem : ElemKind Try.prog 3 litI (Value.int .i64) WfI where
  of y h := plainElem_int Try.underlying3 (by
    obtain ⟨h0, h1⟩ := h
    simp [Lit.wf, IntKind.min, IntKind.max, IntKind.bits, IntKind.signed]
    omega)
  inv v y ps h := by
    obtain ⟨a, rfl, h2, _⟩ := plainElem_int_inv Try.underlying3 h
    rw [lit_int_eq h2]
def litU (y : Nat) : Lit := .int .u32 (y : Int)
def valU (y : Nat) : Value := .int .u32 (y : Int)
theorem u32Elem : ElemKind Try.prog 65 litU valU (fun y => y < 4294967296) where
  of y h := plainElem_int Try.underlying65 (by
    have h : y < 4294967296 := h
    simp [Lit.wf, IntKind.min, IntKind.max, IntKind.bits, IntKind.signed]
    omega)
  inv v y ps h := by
    obtain ⟨a, rfl, h2, _⟩ := plainElem_int_inv Try.underlying65 h
    unfold valU
    rw [lit_int_eq h2]
/-- What a type's zero is. -/
structure ZeroKind (P : Program) (e : TypeId) (z : Value) : Prop where
  zero : ∀ w, (zeroValue e).run P w = .ok z w
  lit : ∃ zl, plainElem (H := Unit) P e z = some (.lit zl, []) ∧ ∀ v ps, plainElem (H := Unit) P e v = some (.lit zl, ps) → v = z
theorem zeroI : ZeroKind Try.prog 3 (.int .i64 0) := ⟨fun w => by kernel_rfl, litI 0, intElem.of 0 ⟨by decide, by decide⟩, fun v ps h => intElem.inv v 0 ps h⟩
theorem zeroU : ZeroKind Try.prog 65 (.int .u32 0) := ⟨fun w => by kernel_rfl, litU 0, u32Elem.of 0 (by decide), fun v ps h => u32Elem.inv v 0 ps h⟩
theorem boolElem_no {P : Program} {e : TypeId} (he : P.underlying e = some .bool) {v : Value} {ps : List MemPlace} (h : plainElem (H := Unit) P e v = some (.lit (.bool false), ps)) : v = .bool false := by
  unfold plainElem at h
  rw [he] at h
  cases v
  case bool x =>
    have h2 : some (DataW.lit (Lit.bool x), ([] : List MemPlace)) = some ((.lit (.bool false) : DataW Unit), ps) := h
    injection h2 with h3
    injection h3 with h4 _
    injection h4 with h5
    injection h5 with h6
    rw [h6]
  all_goals (exact absurd h (by intro h; cases h))
theorem zeroB : ZeroKind Try.prog 4 (.bool false) := ⟨fun w => by kernel_rfl, .bool false, plainElem_bool Try.underlying4 false, fun _ _ h => boolElem_no Try.underlying4 h⟩
section
variable {α β : Type} {P : Program} {k e : TypeId} {key : α → Lit} {vl : β → Lit} {mkK : α → Value} {mkV : β → Value} {V : α → Prop} {U : β → Prop}
theorem map_look (K : KeyKind P k key mkK V) (E : ElemKind P e vl mkV U) {D : DataW Unit} {f : α → Option β} {l : List α} (h : MapM key vl V D f l) {z v : Value} {zl : Lit} {ps : List MemPlace} (hzi : ∀ v ps, plainElem (H := Unit) P e v = some (.lit zl, ps) → v = z) {x : α} (hV : V x)
    (hv : plainElem (H := Unit) P e v = some (D.atKey (key x) (.lit zl), ps)) : v = (f x).elim z mkV := by
  cases hf : f x with
  | none =>
    have hh : Maps.has D (key x) = false := by rw [h.has_some K hV, hf]; rfl
    rw [atKey_of_not_has hh] at hv
    exact hzi v ps hv
  | some y =>
    rw [h.val x y hf] at hv
    exact E.inv v y ps hv
variable {ops : Array Oper} {rest : List Oper} {o : Oper} {a : Act} {Q : Exit → Act → World → Prop}
theorem wpList_get_map (w : World) (hg : o.guard = none) (m x : Operand) (t : TypeId) (hop : o.op = Op.lookup t m x false) (ht : P.underlying t = some (.map k e)) (K : KeyKind P k key mkK V) (E : ElemKind P e vl mkV U) {z : Value} (Z : ZeroKind P e z) (b : Nat) (f : α → Option β) (h : MapAt P k e key vl V w b f)
    (hm : a.eval m = .map (some b)) (x0 : α) (hV : V x0) (hx : a.eval x = mkK x0) (hK : wpList P ops Q rest (a.put o.dst ((f x0).elim z mkV)) w) : wpList P ops Q (o :: rest) a w := by
  obtain ⟨D, l, ho, hM⟩ := h
  obtain ⟨zl, hzl, hzi⟩ := Z.lit
  obtain ⟨v, ps, hrun, hv⟩ := ho.lookup K.law ht (Z.zero w) hzl (K.of x0 hV)
  obtain rfl := map_look K E hM hzi hV hv
  refine wpList_plain hg fun K' hK' => ?_
  unfold Oper.wp
  simp [execOp, hop, hm, hx, hrun, Result.andThen]
  exact hK' _ _ hK
theorem wpList_getok_map (w : World) (hg : o.guard = none) (m x : Operand) (t : TypeId) (hop : o.op = Op.lookup t m x true) (ht : P.underlying t = some (.map k e)) (K : KeyKind P k key mkK V) (E : ElemKind P e vl mkV U) {z : Value} (Z : ZeroKind P e z) (b : Nat) (f : α → Option β) (h : MapAt P k e key vl V w b f)
    (hm : a.eval m = .map (some b)) (x0 : α) (hV : V x0) (hx : a.eval x = mkK x0) (hK : wpList P ops Q rest (a.put o.dst (.tuple #[(f x0).elim z mkV, .bool (f x0).isSome])) w) : wpList P ops Q (o :: rest) a w := by
  obtain ⟨D, l, ho, hM⟩ := h
  obtain ⟨zl, hzl, hzi⟩ := Z.lit
  refine wpList_lookup_own_ok w hg m x t hop k e K.law ht (plainElem P e) (Z.zero w) (.lit zl) [] hzl b _ D hm ho _ (key x0) hx (K.of x0 hV) fun v ps hv => ?_
  obtain rfl := map_look K E hM hzi hV hv
  rw [hM.has_some K hV]
  exact hK
/-- A map of n keys. -/
def MapN (P : Program) (k e : TypeId) (key : α → Lit) (vl : β → Lit) (V : α → Prop) (w : World) (b n : Nat) (f : α → Option β) : Prop :=
  ∃ D l, w.ownsMap P k (plainElem P e) b (Maps.size D) D ∧ MapM key vl V D f l ∧ Maps.size D = n
variable {w w' : World} {b n : Nat} {f : α → Option β}
theorem MapN.at (h : MapN P k e key vl V w b n f) : MapAt P k e key vl V w b f := by
  obtain ⟨D, l, h1, h2, _⟩ := h; exact ⟨D, l, h1, h2⟩
theorem MapN.lt (h : MapN P k e key vl V w b n f) : b < w.heap.size := h.at.lt
theorem MapN.kept {row : Option Nat} (h : MapN P k e key vl V w b n f) (hg : w.grownBy w' row) (hne : some b ≠ row) : MapN P k e key vl V w' b n f := by
  obtain ⟨D, l, h1, h2, h3⟩ := h; exact ⟨D, l, h1.kept hg hne, h2, h3⟩
theorem MapN.below (h : MapN P k e key vl V w b n f) (hb : Below w.heap.size w w') : MapN P k e key vl V w' b n f :=
  h.kept (row := none) ⟨hb.os, hb.tape, hb.output, hb.size, fun i hi _ => hb.block i hi⟩ (by simp)
theorem MapN.made (P : Program) (k e : TypeId) (key : α → Lit) (vl : β → Lit) (V : α → Prop) (w : World) : MapN P k e key vl V (w.alloc (.map #[] 0)) w.heap.size 0 (fun _ => (none : Option β)) :=
  ⟨.map [], [], World.ownsMap_made _ _ _ _, MapM.empty _ _ _, rfl⟩
theorem wpList_len_map (w : World) (hg : o.guard = none) (m : Operand) (t : TypeId) (hop : o.op = Op.call { callee := Callee.builtin Builtin.len, args := #[m], argTypes := #[t] }) (ht : P.underlying t = some (.map k e)) (b n : Nat) (f : α → Option β) (h : MapN P k e key vl V w b n f) (hm : a.eval m = .map (some b))
    (hK : wpList P ops Q rest (a.put o.dst (.int .i64 (n : Int))) w) : wpList P ops Q (o :: rest) a w := by
  obtain ⟨D, l, ho, hM, hn⟩ := h
  refine wpList_len_own w hg m t hop k e ht (plainElem P e) b _ D hm ho ?_
  rw [hn]; exact hK
theorem wpList_put_mapN [DecidableEq α] (w : World) (hg : o.guard = none) (m x v : Operand) (t : TypeId) (hop : o.op = Op.mapUpdate t m x v) (ht : P.underlying t = some (.map k e))
    (K : KeyKind P k key mkK V) (E : ElemKind P e vl mkV U) (N : List α) (hN : ∀ a, V a → a ∈ N) (hNl : N.length < maxLen) (b n : Nat) (f : α → Option β) (h : MapN P k e key vl V w b n f) (hm : a.eval m = .map (some b)) (x0 : α) (y0 : β) (hV : V x0) (hU : U y0) (hnew : f x0 = none) (hx : a.eval x = mkK x0) (hv : a.eval v = mkV y0)
    (hK : ∀ w', MapN P k e key vl V w' b (n + 1) (updF f x0 y0) → w.grownBy w' (some b) → wpList P ops Q rest (a.put o.dst undef) w') : wpList P ops Q (o :: rest) a w := by
  obtain ⟨D, l, ho, hM, hn⟩ := h
  refine wpList_mapUpdate_own w hg m x v t hop k e K.law ht (plainElem P e) b _ D hm ho (Nat.lt_of_le_of_lt (hM.few hN) hNl) _ _ (key x0) hx hv (K.of x0 hV) (.lit (vl y0)) [] (E.of y0 hU) fun w' ho' hg' => ?_
  obtain ⟨l', hM'⟩ := hM.put K hV y0
  refine hK w' ⟨_, l', owns_shrink ho', hM', ?_⟩ hg'
  rw [size_put hM.tidy, hM.has_some K hV, hnew, hn]; rfl
end
end Go.Proofs.Ytjfpaelmcepidaa.PK
