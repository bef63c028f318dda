/- Packed of several texts. -/
import Derived.Test.YtpdbokbmchlgpaaGreatK05
import Derived.Test.YtpdbokbmchlgpaaGreatK03
namespace Go.Proofs.YtpdbokbmchlgpaaGreat.PK

theorem locI_is : ∀ (ls : List (List Ins)) (k : Nat), k < sumI ls ls.length → (locI ls k).1 < ls.length ∧ (locI ls k).2 < (atBk ls (locI ls k).1).length ∧ sumI ls (locI ls k).1 + (locI ls k).2 = k ∧ ls.flatten[k]? = some (atI (atBk ls (locI ls k).1) (locI ls k).2)
  | [], k, h => by simp [sumI] at h
  | l :: ls, k, h => by
    have hs : sumI (l :: ls) (l :: ls).length = l.length + sumI ls ls.length := by simp [sumI]
    by_cases hk : k < l.length
    · rw [locI, if_pos hk]
      refine ⟨by simp, hk, by simp [sumI], ?_⟩
      rw [List.flatten_cons, List.getElem?_append_left hk, List.getElem?_eq_getElem hk]
      show _ = some (atI l k)
      rw [atI_get hk]
    · obtain ⟨h1, h2, h3, h4⟩ := locI_is ls (k - l.length) (by omega)
      rw [locI, if_neg hk]
      refine ⟨by simpa using h1, h2, ?_, ?_⟩
      · have : sumI (l :: ls) ((locI ls (k - l.length)).1 + 1) = l.length + sumI ls (locI ls (k - l.length)).1 := by simp [sumI]
        rw [this]; omega
      · rw [List.flatten_cons, List.getElem?_append_right (by omega)]
        exact h4
end Go.Proofs.YtpdbokbmchlgpaaGreat.PK
namespace Go.Proofs.YtpdbokbmchlgpaaGreat.PK
open Go.RowKit Go.Shelf

theorem cloneI_any (zs : List Int) (a : Option Addr) (cap : Nat) (w : World) (hin : IntsIn w a zs) (hl : zs.length ≤ 100000) :
    Calls Tryz.prog 33 #[.slice a zs.length cap] w fun e w' => (∃ v, e = .returned v ∧ w'.ownsRow w.heap.size 3 1 v zs.length (encI zs)) ∧ Below w.heap.size w w' := by
  by_cases h0 : zs = []
  · subst h0
    cases a with
    | none =>
      refine (Tryz.slices_Clone_int_nil 0 cap w).mono ?_
      rintro e w' ⟨rfl, rfl⟩
      exact ⟨⟨_, rfl, owns_nil _ _ _ _⟩, Below.refl _ _⟩
    | some a =>
      refine (Tryz.slices_Clone_int_zero a cap w).mono ?_
      rintro e w' ⟨v, rfl, ho, _, hb⟩
      exact ⟨⟨_, rfl, ho⟩, hb⟩
  · obtain ⟨b, off, rfl, _⟩ := hin 0 (List.length_pos_iff.2 h0)
    refine (Tryz.slices_Clone_int b off zs.length cap zs w (Nat.le_refl _) (by omega) (fun j hj => by
      obtain ⟨b', o', e, hc⟩ := hin j hj
      simp only [Option.some.injEq, Addr.mk.injEq, and_true] at e
      obtain ⟨rfl, rfl⟩ := e
      exact hc)).mono ?_
    rintro e w' ⟨v, rfl, ho, _, hb⟩
    rw [List.take_length] at ho
    exact ⟨⟨_, rfl, ho⟩, hb⟩
end Go.Proofs.YtpdbokbmchlgpaaGreat.PK
namespace Go.Proofs.YtpdbokbmchlgpaaGreat.PK
open Go.RowKit Go.Shelf
attribute [local go_sem] Oper.semAt_some

/-- The k-th instruction, the places of its lists, its block and its place in it. -/
abbrev xI (F : Fun) (k : Nat) : Ins := atI (atBk F.bs (locI F.bs k).1) (locI F.bs k).2
abbrev eI (F : Fun) (E : Nat → Nat → InsA) (k : Nat) : InsA := E (locI F.bs k).1 (locI F.bs k).2
/-- The block that a round makes of its instruction. -/
def XAt (w : World) (b : Nat) (x : Ins) (e : InsA) (v : Int) (bk i : Nat) : Prop :=
  w.heap[b]? = some (.cells #[.int .i64 x.op, .int .i64 x.wd, .int .i64 x.fl, .slice e.aa x.ar.length e.ca, .int .u32 x.im, .slice e.ta x.tt.length e.ct, .int .i64 v, .int .i64 bk, .int .i64 i] 111 (0, 0))
theorem XAt.turn {B : Nat} {w w' : World} {b : Nat} {x : Ins} {e : InsA} {v : Int} {bk i : Nat} (h : XAt w b x e v bk i) (ht : Turn B w w') : XAt w' b x e v bk i := ht.heap h
theorem XAt.below {w w' : World} {b : Nat} {x : Ins} {e : InsA} {v : Int} {bk i : Nat} (h : XAt w b x e v bk i) (hb : Below w.heap.size w w') : XAt w' b x e v bk i := (hb.block b (lt_of_block h)).trans h
theorem XAt.cell {w : World} {b : Nat} {x : Ins} {e : InsA} {v : Int} {bk i : Nat} (h : XAt w b x e v bk i) :
    w.cell? ⟨b, 0, none⟩ = some (.int .i64 x.op) ∧ w.cell? ⟨b, 1, none⟩ = some (.int .i64 x.wd) ∧ w.cell? ⟨b, 2, none⟩ = some (.int .i64 x.fl) ∧ w.cell? ⟨b, 3, none⟩ = some (.slice e.aa x.ar.length e.ca) ∧ w.cell? ⟨b, 4, none⟩ = some (.int .u32 x.im) ∧ w.cell? ⟨b, 5, none⟩ = some (.slice e.ta x.tt.length e.ct) ∧
      w.cell? ⟨b, 6, none⟩ = some (.int .i64 v) ∧ w.cell? ⟨b, 7, none⟩ = some (.int .i64 bk) ∧ w.cell? ⟨b, 8, none⟩ = some (.int .i64 i) :=
  ⟨cell_of_row w b 0 _ _ _ h, cell_of_row w b 1 _ _ _ h, cell_of_row w b 2 _ _ _ h, cell_of_row w b 3 _ _ _ h, cell_of_row w b 4 _ _ _ h, cell_of_row w b 5 _ _ _ h, cell_of_row w b 6 _ _ _ h, cell_of_row w b 7 _ _ _ h, cell_of_row w b 8 _ _ _ h⟩
theorem range_all {g : Operand} {p s : Tmp} {assign body : Code} {Q : Exit → Act → World → Prop} {a : Act} {w : World} (F : Fun) (A : FunA) (E : Nat → Nat → InsA) (Bs : Nat)
    (hg : a.eval g = .func (.func 122) #[] #[.pointer (some ⟨Bs, 0, none⟩)]) (hbl : F.bs.length ≤ 1000) (hbn : ∀ k, k < F.bs.length → (atBk F.bs k).length ≤ 1000) (hpl : F.ps.length ≤ 1000)
    (w0 : World) (hb0 : Below w0.heap.size w0 w) (hE : BksIn w0 A.ba F.bs E) (hBs : Bs < w.heap.size) (hB0 : w.cell? ⟨Bs, 0, none⟩ = some (.slice A.pa F.ps.length A.pc)) (hB3 : w.cell? ⟨Bs, 3, none⟩ = some (.slice A.ba F.bs.length A.bc))
    (I : Nat → World → Prop) (Ix : Code → Nat → World → Prop) (hI : ∀ k A A', Turn w.heap.size A A' → I k A → I k A') (hIx : ∀ c k A A', Turn w.heap.size A A' → Ix c k A → Ix c k A') (h0 : I 0 w) (hIs : ∀ k W, I k W → w.heap.size ≤ W.heap.size)
    (hass : ∀ (l k : Nat) (W : World) (K : Act → World → Prop), K { tmps := (a.tmps.setIfInBounds p (encX F E k)).setIfInBounds s (.pointer (some ⟨W.heap.size, 0, none⟩)), defers := [] }
        (W.alloc (.cells #[.int .i64 (xI F k).op, .int .i64 (xI F k).wd, .int .i64 (xI F k).fl, .slice (eI F E k).aa (xI F k).ar.length (eI F E k).ca, .int .u32 (xI F k).im, .slice (eI F E k).ta (xI F k).tt.length (eI F E k).ct, .int .i64 ((F.ps.length : Int) + k), .int .i64 (locI F.bs k).1, .int .i64 (locI F.bs k).2] 111)) →
      assign.wpIn (Fence.wide.inRound l) 1 Tryz.prog (Exit.then K (fun _ _ _ => False)) { tmps := a.tmps.setIfInBounds p (encX F E k), defers := [] } W)
    (hbody : ∀ (l k : Nat) (W : World) (Bx : Nat), w.heap.size ≤ l → I k W → k < sumI F.bs F.bs.length → w.heap.size ≤ Bx → XAt W Bx (xI F k) (eI F E k) ((F.ps.length : Int) + k) (locI F.bs k).1 (locI F.bs k).2 →
      body.wpIn (Fence.wide.inRound l) 1 Tryz.prog (postN w.heap.size w0.heap.size Bs (I (k + 1)) (fun c => Ix c (k + 1)) W) { tmps := (a.tmps.setIfInBounds p (encX F E k)).setIfInBounds s (.pointer (some ⟨Bx, 0, none⟩)), defers := [] } W)
    (hdone : ∀ (D : Nat) (W : World), w.heap.size ≤ D → I (sumI F.bs F.bs.length) W → W.heap[D]? = some (.deferred (some [])) → Q .normal { a with defers := { target := .collected D, args := #[] } :: a.defers } W)
    (hstop : ∀ (D : Nat) (c : Code) (k : Nat) (W : World), w.heap.size ≤ D → k ≤ sumI F.bs F.bs.length → Ix c k W → W.heap[D]? = some (.deferred (some [])) → c.wpIn Fence.wide 3 Tryz.prog Q { a with defers := { target := .collected D, args := #[] } :: a.defers } W) :
    (Code.rangeFunc g #[p] assign body).wpIn Fence.wide 3 Tryz.prog Q a w :=
  wpIn_rangeFunc_list rfl (by omega) (gf := 122) (lb := #[.pointer (some ⟨Bs, 0, none⟩)]) hg trivial (enters_of Tryz.func122 (by kernel_rfl) rfl)
    (all_seq Fence.wide 2 trivial rfl (by omega) Bs F A E hbl hbn hpl w0 w hb0 hE hBs hB0 hB3) hb0.size hBs (fun _ => rfl) I Ix hI hIx h0
    (fun k a' W => I k W ∧ ∃ Bx, w.heap.size ≤ Bx ∧ XAt W Bx (xI F k) (eI F E k) ((F.ps.length : Int) + k) (locI F.bs k).1 (locI F.bs k).2 ∧ a' = { tmps := (a.tmps.setIfInBounds p (encX F E k)).setIfInBounds s (.pointer (some ⟨Bx, 0, none⟩)), defers := [] })
    (fun k a' A A' ht h => by
      obtain ⟨h1, Bx, h2, h3, h4⟩ := h
      exact ⟨hI k A A' ht h1, Bx, h2, h3.turn ht, h4⟩)
    (fun l k W K hi hk hK => by
      have hal : Below W.heap.size W (W.alloc (.cells #[.int .i64 (xI F k).op, .int .i64 (xI F k).wd, .int .i64 (xI F k).fl, .slice (eI F E k).aa (xI F k).ar.length (eI F E k).ca, .int .u32 (xI F k).im, .slice (eI F E k).ta (xI F k).tt.length (eI F E k).ct, .int .i64 ((F.ps.length : Int) + k), .int .i64 (locI F.bs k).1, .int .i64 (locI F.bs k).2] 111)) := (Below.refl _ _).alloc (Nat.le_refl _) _
      have hz := hIs k W hi
      have h := hass l k W K (hK _ _ ((KeepsOthers.alloc _ _).from _) (Kp.of_below hal (Nat.le_trans hb0.size hz) (Nat.lt_of_lt_of_le hBs hz)) ⟨hI k _ _ (Turn.of_below hal) hi, W.heap.size, hz, heap_alloc_new _ _, rfl⟩)
      simpa using h)
    (fun l k a' W hl _ h hk => by
      obtain ⟨h1, Bx, h2, h3, rfl⟩ := h
      exact hbody l k W Bx hl h1 hk h2 h3)
    hdone hstop
end Go.Proofs.YtpdbokbmchlgpaaGreat.PK
namespace Go.Proofs.YtpdbokbmchlgpaaGreat.PK
open Go.RowKit Go.Shelf

/-- How a round ends that looks at one instruction. -/
def postT (r : Nat) (v : Value) (p : Prop) (W : World) : Exit → Act → World → Prop
  | .normal, _, W' => Below W.heap.size W W' ∧ p
  | .ret, _, W' => (∃ W'', Below W.heap.size W W'' ∧ W' = W''.setCell ⟨r, 0, none⟩ v) ∧ ¬ p
  | _, _, _ => False
theorem keeps_below {B : Nat} {W W' : World} (h : Below W.heap.size W W') : KeepsFrom B W W' := ⟨h.size, fun k _ _ hk _ => (h.block k (lt_of_block hk)).trans hk⟩
theorem range_test {g : Operand} {p s : Tmp} {assign body : Code} {Q : Exit → Act → World → Prop} {a : Act} {w : World} (F : Fun) (A : FunA) (E : Nat → Nat → InsA) (Bs r q : Nat) (v v0 : Value) (tr : TypeId) (P : Nat → Prop)
    (hg : a.eval g = .func (.func 122) #[] #[.pointer (some ⟨Bs, 0, none⟩)]) (hbl : F.bs.length ≤ 1000) (hbn : ∀ k, k < F.bs.length → (atBk F.bs k).length ≤ 1000) (hpl : F.ps.length ≤ 1000)
    (hE : BksIn w A.ba F.bs E) (hBs : Bs < w.heap.size) (hB0 : w.cell? ⟨Bs, 0, none⟩ = some (.slice A.pa F.ps.length A.pc)) (hB3 : w.cell? ⟨Bs, 3, none⟩ = some (.slice A.ba F.bs.length A.bc))
    (hr : w.heap[r]? = some (.cells #[v0] tr (0, 0))) (hq : q ≤ r)
    (hass : ∀ (l k : Nat) (W : World) (K : Act → World → Prop), K { tmps := (a.tmps.setIfInBounds p (encX F E k)).setIfInBounds s (.pointer (some ⟨W.heap.size, 0, none⟩)), defers := [] }
        (W.alloc (.cells #[.int .i64 (xI F k).op, .int .i64 (xI F k).wd, .int .i64 (xI F k).fl, .slice (eI F E k).aa (xI F k).ar.length (eI F E k).ca, .int .u32 (xI F k).im, .slice (eI F E k).ta (xI F k).tt.length (eI F E k).ct, .int .i64 ((F.ps.length : Int) + k), .int .i64 (locI F.bs k).1, .int .i64 (locI F.bs k).2] 111)) →
      assign.wpIn (Fence.wide.inRound l) 1 Tryz.prog (Exit.then K (fun _ _ _ => False)) { tmps := a.tmps.setIfInBounds p (encX F E k), defers := [] } W)
    (hbody : ∀ (l k : Nat) (W : World) (Bx : Nat), Below w.heap.size w W → (∀ j, j < k → P j) → k < sumI F.bs F.bs.length → w.heap.size ≤ Bx → XAt W Bx (xI F k) (eI F E k) ((F.ps.length : Int) + k) (locI F.bs k).1 (locI F.bs k).2 →
      body.wpIn (Fence.wide.inRound l) 1 Tryz.prog (postT r v (P k) W) { tmps := (a.tmps.setIfInBounds p (encX F E k)).setIfInBounds s (.pointer (some ⟨Bx, 0, none⟩)), defers := [] } W)
    (hdone : ∀ (D : Nat) (W : World), w.heap.size ≤ D → Below w.heap.size w W → (∀ k, k < sumI F.bs F.bs.length → P k) → W.heap[D]? = some (.deferred (some [])) → Q .normal { a with defers := { target := .collected D, args := #[] } :: a.defers } W)
    (hstop : ∀ (D k : Nat) (W : World), w.heap.size ≤ D → k < sumI F.bs F.bs.length → ¬ P k → Below q w W → W.cell? ⟨r, 0, none⟩ = some v → W.heap[D]? = some (.deferred (some [])) → Code.ret.wpIn Fence.wide 3 Tryz.prog Q { a with defers := { target := .collected D, args := #[] } :: a.defers } W) :
    (Code.rangeFunc g #[p] assign body).wpIn Fence.wide 3 Tryz.prog Q a w := by
  have hrl := lt_of_block hr
  have hqw : q ≤ w.heap.size := by omega
  refine range_all F A E Bs hg hbl hbn hpl w (Below.refl _ _) hE hBs hB0 hB3 (fun k W => Below w.heap.size w W ∧ ∀ j, j < k → P j) (fun c _ W => c = .ret ∧ (∃ j, j < sumI F.bs F.bs.length ∧ ¬ P j) ∧ Below q w W ∧ W.cell? ⟨r, 0, none⟩ = some v)
    (fun k A' A'' ht h => ⟨ht.below h.1 (Nat.le_refl _) h.1.size, h.2⟩) (fun c k A' A'' ht h => ⟨h.1, h.2.1, ht.below h.2.2.1 hqw (Nat.le_trans hqw h.2.2.1.size), ht.cell h.2.2.2⟩) ⟨Below.refl _ _, fun j hj => absurd hj (Nat.not_lt_zero _)⟩ (fun k W h => h.1.size) hass ?_ ?_ ?_
  · intro l k W Bx hl hI hk hBx hx
    refine wpIn_mono (hbody l k W Bx hI.1 hI.2 hk hBx hx) ?_
    intro e a3 W3 hp
    match e, hp with
    | .normal, ⟨h1, h2⟩ =>
      refine ⟨keeps_below h1, Kp.of_below h1 hI.1.size (Nat.lt_of_lt_of_le hBs hI.1.size), hI.1.trans (h1.mono hI.1.size), fun j hj => ?_⟩
      by_cases e : j = k
      · subst e; exact h2
      · exact hI.2 j (by omega)
    | .ret, ⟨⟨W'', h1, h2⟩, h3⟩ =>
      subst h2
      have hb := hI.1.trans (h1.mono hI.1.size)
      have hr2 := (hb.block _ hrl).trans hr
      refine ⟨(keeps_below h1).trans ((KeepsOthers.setCell _ _ _).from _), rfl, ⟨k, hk, h3⟩, (hb.mono hqw).setCell hq v, ?_⟩
      exact cell_of_row _ _ 0 _ _ _ (heap_setCell_same W'' r 0 _ _ v hr2)
  · intro D W hD hI hK
    exact hdone D W hD hI.1 hI.2 hK
  · intro D c k W hD _ hI hK
    obtain ⟨rfl, ⟨j, hj, hp⟩, h1, h2⟩ := hI
    exact hstop D j W hD hj hp h1 h2 hK
/-- A result that lies in a block of one cell. -/
theorem results_cell_bool {fn : Func} {p : Tmp} (h : fn.results = #[.cell p 4]) (tmps : Array Value) (w : World) (g : Nat) (b : Bool)
    (hp : tmps.getD p undef = .pointer (some ⟨g, 0, none⟩)) (hc : w.cell? ⟨g, 0, none⟩ = some (.bool b)) : (results fn tmps).run Tryz.prog w = .ok (.bool b) w := by
  have hp' : tmps[p]?.getD undef = .pointer (some ⟨g, 0, none⟩) := by simpa using hp
  simp [results, h, hp', asAddr, loadVar, hc, go_sem]
theorem cell_put {W : World} {D g k : Nat} {v : Value} (o : Obj) (hK : W.heap[D]? = some (.deferred (some []))) (hc : W.cell? ⟨g, k, none⟩ = some v) : (W.putObj D o).cell? ⟨g, k, none⟩ = some v := by
  have hne : g ≠ D := fun e => by
    subst e
    unfold World.cell? at hc
    simp [hK] at hc
  rw [World.cell?_of_block (w := W) (World.putObj_heap_other hne)]; exact hc
/-- The exit by way of a result block, where a range over a function has left its mark. -/
theorem leave_bool {fn : Func} {tmps : Array Value} {R : Ending → World → Prop} {D g : Nat} {p : Tmp} {b : Bool} {W : World} (base : World) (h : fn.results = #[.cell p 4]) (hp : tmps.getD p undef = .pointer (some ⟨g, 0, none⟩)) (hK : W.heap[D]? = some (.deferred (some [])))
    (hc : W.cell? ⟨g, 0, none⟩ = some (.bool b)) (hb : Below base.heap.size base W) (hD : base.heap.size ≤ D) (hR : ∀ W', Below base.heap.size base W' → R (.returned (.bool b)) W') : LeavesInM Fence.wide 3 Tryz.prog fn tmps R [{ target := .collected D, args := #[] }] .returning W :=
  ⟨by simp, .inl ⟨_, _, rfl, run_takeDeferred hK, ⟨_, results_cell_bool h tmps _ g b hp (cell_put _ hK hc), hR _ (hb.trans (belowK_b (w := base) (Nat.le_refl _) W D _ _ hD hK rfl rfl))⟩⟩⟩
end Go.Proofs.YtpdbokbmchlgpaaGreat.PK
