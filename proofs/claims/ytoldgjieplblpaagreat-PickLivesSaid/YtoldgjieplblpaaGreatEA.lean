/- The small machine: regions, in the text's order and in any order. -/
import Derived.Test.YtoldgjieplblpaaGreatE9
namespace Go.Proofs.YtoldgjieplblpaaGreat.Mini
open Go.RowKit

variable {P : Program} {B : Nat}
/-- The blocks of a frame's loops over functions, among its deferred calls. -/
inductive Marks (x : Env) : List Nat → List Deferred → Prop
  | nil : Marks x [] []
  | cons {n : Nat} {L : Loc} {ns : List Nat} {ds : List Deferred} (h : x n = some L) (hs : Marks x ns ds) : Marks x (n :: ns) ({ target := .collected L.b, args := #[] } :: ds)
theorem Marks.le {x y : Env} (hl : x.le y) : ∀ {ns : List Nat} {ds : List Deferred}, Marks x ns ds → Marks y ns ds
  | _, _, .nil => .nil
  | _, _, .cons h hs => .cons (hl _ _ h) (hs.le hl)
/-- A frame's slots. -/
structure FrAt (x : Env) (F : Fr) (a : Act) : Prop where
  dfr : Marks x F.marks a.defers
  tm : FrT x F a.tmps
theorem FrAt.ev {x : Env} {F : Fr} {a : Act} (h : FrAt x F a) (i : Nat) : Rnd x ((F.t.get i).getD MV.undef) (a.tmps.getD i Go.undef) := h.tm.ev i
theorem FrAt.eval {x : Env} {F : Fr} {a : Act} (h : FrAt x F a) (y : Operand) : Rnd x (F.ev y) (a.eval y) := by
  cases y with
  | tmp i => exact h.ev i
  | _ => exact .v _
theorem FrAt.le {x y : Env} {F : Fr} {a : Act} (h : FrAt x F a) (hl : x.le y) : FrAt y F a := ⟨h.dfr.le hl, h.tm.le hl⟩
theorem FrT.put {x : Env} {F : Fr} {tmps : Array Value} (h : FrT x F tmps) {i : Nat} (h1 : i < F.n) (h2 : i < far) {m : MV} {v : Value} (hv : Rnd x m v) : FrT x (F.put (some i) m) (tmps.setIfInBounds i v) := by
  refine ⟨by rw [Array.size_setIfInBounds]; exact h.size, fun j => ?_⟩
  show Rnd x (((F.t.set i m).get j).getD MV.undef) _
  rw [T.get_set _ _ _ _ h2]
  by_cases e : j = i
  · subst e
    rw [if_pos rfl]
    have : (tmps.setIfInBounds j v).getD j Go.undef = v := by
      simp [Array.getD, h.size, h1]
    rw [this]
    exact hv
  · rw [if_neg e]
    have : (tmps.setIfInBounds i v).getD j Go.undef = tmps.getD j Go.undef := by
      simp only [Array.getD_eq_getD_getElem?]
      rw [Array.getElem?_setIfInBounds_ne (fun e2 => e e2.symm)]
    rw [this]
    exact h.ev j
theorem FrAt.put {x : Env} {F : Fr} {a : Act} (h : FrAt x F a) {d : Option Tmp} (hf : F.fits d) {m : MV} {v : Value} (hv : Rnd x m v) : FrAt x (F.put d m) (a.put d v) := by
  cases d with
  | none => exact h
  | some i => exact ⟨h.dfr, h.tm.put (hf i rfl).1 (hf i rfl).2 hv⟩
theorem yielded_no {ops : Array Oper} {tmps : Array Value} {j d : Nat} (hd : (ops[j]?).bind (·.dst) = some d) (h : ∀ b, tmps.getD d Go.undef ≠ .bool b) : yielded ops tmps j = none := by
  unfold yielded
  rw [hd]
  simp only [Option.bind_some]
  rw [Array.getD_eq_getD_getElem?] at h
  cases hq : tmps[d]? with
  | none => rfl
  | some u =>
    rw [hq] at h
    cases u <;> first | rfl | exact absurd rfl (h _)
theorem yielded_yes {ops : Array Oper} {tmps : Array Value} {j d : Nat} {b : Bool} (hd : (ops[j]?).bind (·.dst) = some d) (h : tmps.getD d Go.undef = .bool b) : yielded ops tmps j = some b := by
  unfold yielded
  rw [hd]
  simp only [Option.bind_some]
  rw [Array.getD_eq_getD_getElem?] at h
  cases hq : tmps[d]? with
  | none => rw [hq] at h; cases h
  | some u =>
    rw [hq] at h
    have : u = .bool b := h
    subst this
    rfl
theorem yielded_none {ops : Array Oper} {tmps : Array Value} {j : Nat} (hd : (ops[j]?).bind (·.dst) = none) : yielded ops tmps j = none := by
  unfold yielded
  rw [hd]
  rfl
theorem wanted_eq {x : Env} {F : Fr} {a : Act} (h : FrAt x F a) (ops : Array Oper) (o : Oper) : Region.wanted o (yielded ops a.tmps) = wantedM ops F o := by
  unfold Region.wanted wantedM
  cases o.guard with
  | none => rfl
  | some g =>
    obtain ⟨j, want⟩ := g
    dsimp only
    cases hd : (ops[j]?).bind (·.dst) with
    | none => rw [yielded_none hd]; cases want <;> rfl
    | some d =>
      dsimp only
      have hv := h.ev d
      cases hm : F.t.get d with
      | none =>
        rw [hm] at hv
        rw [yielded_no hd (fun b e => by rw [hv.v_eq] at e; cases e)]
        cases want <;> rfl
      | some m =>
        rw [hm] at hv
        dsimp only [Option.getD_some] at hv
        cases m with
        | v y =>
          have e := hv.v_eq
          cases y <;> first
            | (rename_i b; rw [yielded_yes hd e]; cases b <;> cases want <;> rfl)
            | (rw [yielded_no hd (fun b e2 => by rw [e] at e2; cases e2)]; cases want <;> rfl)
        | ptr n o => rw [yielded_no hd (fun b e => by rw [e] at hv; cases hv)]; cases want <;> rfl
        | sl n o l c => rw [yielded_no hd (fun b e => by rw [e] at hv; cases hv)]; cases want <;> rfl
        | yld n => rw [yielded_no hd (fun b e => by rw [e] at hv; cases hv)]; cases want <;> rfl
        | mref n => rw [yielded_no hd (fun b e => by rw [e] at hv; cases hv)]; cases want <;> rfl
        | emp => rw [yielded_no hd (fun b e => by rw [e] at hv; cases hv)]; cases want <;> rfl
        | clo f cs => rw [yielded_no hd (fun b e => by rw [e] at hv; cases hv)]; cases want <;> rfl
        | agg cs => rw [yielded_no hd (fun b e => by rw [e] at hv; cases hv)]; cases want <;> rfl
        | tup cs => rw [yielded_no hd (fun b e => by rw [e] at hv; cases hv)]; cases want <;> rfl
/-- The operations that are no defer. -/
theorem opK_plain {call : MV → List MV → (MV → Prg) → Prg} {F : Fr} {o : Oper} {k : MV → Prg} {H : Heap} {c : Nat} {l : Log} {out : MV × Heap × Nat × Log} (h : run (opK P call F o k) H c l = some out) : ∀ d, o.op ≠ .defer d := by
  intro d e
  unfold opK at h
  rw [e] at h
  exact not_fail h
theorem OpDoes.wpIn {Fc : Fence} (hW : Wd Fc) {n : Nat} {o : Oper} {F : Fr} {m : MV} {H H' : Heap} (h : OpDoes P B o F m H H') (hd : ∀ d, o.op ≠ .defer d) {x : Env} {w : World} {a : Act} (hR : Rel B x H w) (ha : FrAt x F a) {K : Act → World → Prop} {Q : Exit → Act → World → Prop}
    (hK : ∀ v w', Post B x H' m w v w' → K (a.put o.dst v) w') : o.wpIn Fc n P a w K Q := by
  refine ⟨fun f _ => hW.fn f, ?_⟩
  have hs : o.semAt Fc.round a.eval = execOp a.eval o := by
    unfold Oper.semAt
    split
    · rename_i e; exact absurd e (hd _)
    · rfl
  rw [hs]
  rcases h x w a.eval hR ha.eval with ⟨v, w', h1, h2⟩ | ⟨f, args, h1, h2⟩ | ⟨l, f, tmps, asg, bd, h1, h2⟩
  · rcases h1 with h1 | ⟨h1, rfl⟩
    · rw [h1]; exact hK v w' h2
    · rw [h1]; exact hK _ w' h2
  · rw [h1]
    refine ⟨fun e => (by rw [hW.dep] at e; cases e), hW.call _ _ _ _ _ _ (h2.mono fun e w' ⟨v, he, hp⟩ => ?_)⟩
    subst he
    exact hK v w' hp
  · rw [h1]
    refine ⟨fun e => (by rw [hW.dep] at e; cases e), (h2 Fc (n - 1) hW).mono fun e w' ⟨v, he, hp⟩ => ?_⟩
    subst he
    exact hK v w' hp
/-- What a stretch of a region does. -/
def RegDoes (B : Nat) (S : Fence → Nat → (Exit → Act → World → Prop) → Act → World → Prop) (F : Fr) (H : Heap) (F' : Fr) (H' : Heap) : Prop :=
  ∀ (Fc : Fence) (n : Nat), Wd Fc → ∀ x w a Q, Rel B x H w → FrAt x F a → (∀ y w' a', x.le y → Rel B y H' w' → FrAt y F' a' → Below B w w' → Q .normal a' w') → S Fc n Q a w
theorem reg_got {call : MV → List MV → (MV → Prg) → Prg} (hcall : CallOk P B call) (ops : Array Oper) : ∀ (rest : List Oper) (F : Fr) (k : Fr → Prg) (H : Heap) (c : Nat) (l : Log) (out : MV × Heap × Nat × Log), run (regK P call ops rest F k) H c l = some out →
    ∃ F' H' c' l', run (k F') H' c' l' = some out ∧ RegDoes B (fun Fc n Q a w => wpListIn Fc n P ops Q rest a w) F H F' H'
  | [], F, k, H, c, l, out, h => ⟨F, H, c, l, h, fun Fc n hW x w a Q hR ha hQ => hQ x w a (Env.le_refl x) hR ha (Below.refl B w)⟩
  | o :: rest, F, k, H, c, l, out, h => by
    unfold regK at h
    split at h
    · rename_i hw
      have hd := opK_plain h
      obtain ⟨m, H1, c1, l1, h1, h2⟩ := op_got hcall h
      obtain ⟨hf, h3⟩ := run_putK h1
      obtain ⟨F', H', c', l', h4, h5⟩ := reg_got hcall ops rest _ _ _ _ _ _ h3
      refine ⟨F', H', c', l', h4, fun Fc n hW x w a Q hR ha hQ => ?_⟩
      show wpListIn Fc n P ops Q (o :: rest) a w
      unfold wpListIn
      rw [wanted_eq ha ops o, hw, if_pos rfl]
      refine h2.wpIn hW hd hR ha fun v w' ⟨y, q1, q2, q3, q4⟩ => ?_
      exact h5 Fc n hW y w' _ Q q2 ((ha.le q1).put hf q3) fun z w2 a2 e1 e2 e3 e4 => hQ z w2 a2 (Env.le_trans q1 e1) e2 e3 (q4.trans e4)
    · rename_i hw
      obtain ⟨hf, h3⟩ := run_putK h
      obtain ⟨F', H', c', l', h4, h5⟩ := reg_got hcall ops rest _ _ _ _ _ _ h3
      refine ⟨F', H', c', l', h4, fun Fc n hW x w a Q hR ha hQ => ?_⟩
      show wpListIn Fc n P ops Q (o :: rest) a w
      unfold wpListIn
      rw [wanted_eq ha ops o, hw, if_neg (by simp)]
      exact ⟨fun f _ => hW.fn f, h5 Fc n hW x w _ Q hR (ha.put hf (.v _)) hQ⟩

/-! ### In any order -/
theorem opK_congr {call : MV → List MV → (MV → Prg) → Prg} {F G : Fr} {o : Oper} {k : MV → Prg} (h : ∀ y ∈ o.op.operands, F.ev y = G.ev y) : opK P call F o k = opK P call G o k := by
  obtain ⟨dst, op, ty, pos, after, guard⟩ := o
  have hl : ∀ (l : List Operand), (∀ y ∈ l, F.ev y = G.ev y) → l.map F.ev = l.map G.ev := fun l hl => List.map_congr_left hl
  have hp : ∀ (l : List (Nat × Operand)), (∀ y ∈ l.map (·.2), F.ev y = G.ev y) → evps F l = evps G l := by
    intro l
    induction l with
    | nil => intro _; rfl
    | cons q l ih =>
      obtain ⟨i, y⟩ := q
      intro hy
      simp only [evps]
      rw [hy y (by simp), ih fun z hz => hy z (by simp only [List.map_cons, List.mem_cons]; exact .inr hz)]
  unfold opK
  cases op <;> dsimp only [Op.operands, pickK, boxOpK, buildOpK, loadOpK, storeOpK, nilOpK, binOpK, unOpK, convOpK, funOpK, makeOpK, indexAddrOpK, indexOpK, callOpK, mapOpK, lookOpK] at h ⊢ <;> try simp only [evK_eq, evsK_eq]
  case build t ps => rw [hp ps.toList (fun y hy => h y (by simpa using hy))]
  case buildSlice t n ps => rw [hp ps.toList (fun y hy => h y (by simpa using hy))]
  case makeFunc fn first caps => rw [hl caps.toList (fun y hy => h y (by simp at hy ⊢; exact .inr hy))]
  case slice t y lo hi mx =>
    have h0 : F.ev y = G.ev y := h y (by simp)
    have hb : ∀ (o : Option Operand) (d b : Nat) (k : Nat → Prg), (∀ z, o = some z → F.ev z = G.ev z) → boundK F o d b k = boundK G o d b k := fun o d b k hz => by
      cases o with
      | none => rfl
      | some z => simp only [boundK, evK_eq, hz z rfl]
    have hq : ∀ (o : Option Operand) (k : Option Value → Prg), (∀ z, o = some z → F.ev z = G.ev z) → plainK F o k = plainK G o k := fun o k hz => by
      cases o with
      | none => rfl
      | some z => simp only [plainK, evK_eq, hz z rfl]
    have h1 : ∀ z, lo = some z → F.ev z = G.ev z := fun z e => h z (by subst e; simp)
    have h2 : ∀ z, hi = some z → F.ev z = G.ev z := fun z e => h z (by subst e; simp)
    have h3 : ∀ z, mx = some z → F.ev z = G.ev z := fun z e => h z (by subst e; simp)
    rw [h0]
    unfold sliceK
    have h3' : ∀ m0 z, mx = some m0 → some m0 = some z → F.ev z = G.ev z := fun m0 z e e2 => h3 z (by rw [e, e2])
    split
    · split
      · rfl
      · split
        · split
          · simp only [hb _ _ _ _ h1, hb _ _ _ _ h2, hb _ _ _ _ (h3' _ · rfl)]
          · simp only [hb _ _ _ _ h1, hb _ _ _ _ h2]
          · simp only [hb _ _ _ _ h1, hb _ _ _ _ h2, hb _ _ _ _ (h3' _ · rfl)]
          · simp only [hb _ _ _ _ h1, hb _ _ _ _ h2]
        · simp only [hq _ _ h1, hq _ _ h2, hq _ _ h3]
        · split
          · simp only [hb _ _ _ _ h1, hb _ _ _ _ h2]
          · rfl
        · rfl
    · split
      · simp only [hq _ _ h1, hq _ _ h2, hq _ _ h3]
      · rfl
    · rfl
  case call cl =>
    obtain ⟨callee, args, ats⟩ := cl
    dsimp only [Call.operands] at h ⊢
    cases callee with
    | builtin b => rw [hl args.toList (fun y hy => h y (by simp at hy ⊢; exact hy))]
    | value f =>
      dsimp only
      rw [h f (by simp), hl args.toList (fun y hy => h y (by simp at hy ⊢; exact .inr hy))]
    | invoke r s => rfl
  all_goals first | rfl | (simp only [h _ (by simp : _ ∈ _)]; done) | (simp_all; done)
end Go.Proofs.YtoldgjieplblpaaGreat.Mini
