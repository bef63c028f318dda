/- How an instruction is written. -/
import Derived.Test.YtjfpaelmcepidaaD0
import Derived.Test.YtjfpaelmcepidaaKC
import Derived.Deep.Upon
import Derived.Test.YtjfpaelmcepidaaKU
namespace Go.Proofs.Ytjfpaelmcepidaa.PK
open Go.RowKit Go.Maps

set_option maxHeartbeats 1000000 in
theorem at_any (p : Int) (hp : 0 ≤ p ∧ p ≤ 1000) (w : World) : Calls Try.prog 24 #[.int .i64 p] w fun e w' => e = .returned (.int .u32 ((1024 + 4 * p.toNat : Nat) : Int)) ∧ w' = w := by
  obtain ⟨n, rfl⟩ : ∃ n : Nat, p = n := ⟨p.toNat, by omega⟩
  have hn : n ≤ 1000 := by omega
  rw [Int.toNat_natCast]
  clear hp
  have h1 : -9223372036854775808 ≤ 4 * (n : Int) ∧ 4 * (n : Int) ≤ 9223372036854775807 := by omega
  have h2 : ((1024 + 4 * (n : Int)) % 4294967296) = 1024 + 4 * (n : Int) := by omega
  go_enter Try.func24, Try.ntmps24
  go_wp2_with fail
  go_ret
  refine ⟨?_, by trivial⟩
  simp
  try omega
set_option maxHeartbeats 1000000 in
theorem readsA_any (op : Int) (w : World) : Calls Try.prog 60 #[.int .i64 op] w fun e w' => e = .returned (.bool (fA op)) ∧ w' = w := by
  by_cases h1 : op = 1
  · subst h1
    rw [show fA 1 = true from by decide]
    go_enter Try.func60, Try.ntmps60
    go_wp2_with fail
    go_ret
    exact ⟨rfl, rfl⟩
  have e1 : (op == 1) = false := by simp [h1]
  by_cases h2 : 2 ≤ op
  · by_cases h3 : op ≤ 23
    · have hf : fA op = true := by unfold fA; exact decide_eq_true (by omega)
      rw [hf]
      go_enter Try.func60, Try.ntmps60
      go_wp2_with fail
      go_ret
      exact ⟨rfl, rfl⟩
    · by_cases h4 : op = 25
      · subst h4
        rw [show fA 25 = true from by decide]
        go_enter Try.func60, Try.ntmps60
        go_wp2_with fail
        go_ret
        exact ⟨rfl, rfl⟩
      · have e4 : (op == 25) = false := by simp [h4]
        have hf : fA op = false := by unfold fA; exact decide_eq_false (by omega)
        rw [hf]
        go_enter Try.func60, Try.ntmps60
        go_wp2_with fail
        go_ret
        exact ⟨rfl, rfl⟩
  · have h4 : ¬ op = 25 := by omega
    have e4 : (op == 25) = false := by simp [h4]
    have hf : fA op = false := by unfold fA; exact decide_eq_false (by omega)
    rw [hf]
    go_enter Try.func60, Try.ntmps60
    go_wp2_with fail
    go_ret
    exact ⟨rfl, rfl⟩
set_option maxHeartbeats 1000000 in
theorem readsB_any (op : Int) (w : World) : Calls Try.prog 62 #[.int .i64 op] w fun e w' => e = .returned (.bool (fB op)) ∧ w' = w := by
  by_cases h2 : 2 ≤ op
  · by_cases h3 : op ≤ 17
    · have hf : fB op = true := by unfold fB; exact decide_eq_true (by omega)
      rw [hf]
      go_enter Try.func62, Try.ntmps62
      go_wp2_with fail
      go_ret
      exact ⟨rfl, rfl⟩
    · by_cases h4 : 21 ≤ op
      · by_cases h5 : op ≤ 23
        · have hf : fB op = true := by unfold fB; exact decide_eq_true (by omega)
          rw [hf]
          go_enter Try.func62, Try.ntmps62
          go_wp2_with fail
          go_ret
          exact ⟨rfl, rfl⟩
        · have hf : fB op = false := by unfold fB; exact decide_eq_false (by omega)
          rw [hf]
          go_enter Try.func62, Try.ntmps62
          go_wp2_with fail
          go_ret
          exact ⟨rfl, rfl⟩
      · have hf : fB op = false := by unfold fB; exact decide_eq_false (by omega)
        rw [hf]
        go_enter Try.func62, Try.ntmps62
        go_wp2_with fail
        go_ret
        exact ⟨rfl, rfl⟩
  · have h4 : ¬ 21 ≤ op := by omega
    have hf : fB op = false := by unfold fB; exact decide_eq_false (by omega)
    rw [hf]
    go_enter Try.func62, Try.ntmps62
    go_wp2_with fail
    go_ret
    exact ⟨rfl, rfl⟩
/-- An append of instructions that lie somewhere (or of none). -/
theorem wpList_append_codes {ops : Array Oper} {rest : List Oper} {o : Oper} {a : Act} {Q : Exit → Act → World → Prop} (w : World) (hgd : o.guard = none) (s x : Operand) (ho : o.op = .call { callee := .builtin .append, args := #[s, x], argTypes := #[48, 48] })
    (B : Nat) (v : Value) (L : List Cd) (hs : a.eval s = v) (hown : w.ownsRow B 68 6 v L.length (encC L)) (aa : Option Addr) (c : Nat) (l : List Cd) (hx : a.eval x = .slice aa l.length c) (hin : CdsIn w aa l) (hlen : L.length + l.length ≤ 1000000) (hbase : B ≤ w.heap.size)
    (h : ∀ v' w', w'.ownsRow B 68 6 v' (L ++ l).length (encC (L ++ l)) → w.grownBy w' v.ownBlock → wpList Try.prog ops Q rest (a.put o.dst v') w') : wpList Try.prog ops Q (o :: rest) a w := by
  obtain ⟨i0, hi, hz0, hz1, hz2⟩ := info_parts Try.infoCode
  cases aa with
  | some ad =>
    obtain ⟨b, off, sp⟩ := ad
    by_cases hl : l = []
    · subst hl
      refine wpList_append_own w hgd s x 48 ho B 68 i0 _ 6 48 Try.underCodes hi hz0 hz1 hz2 rfl (by decide) v L.length (encC L) hs hown ⟨b, off, sp⟩ 0 c [] hx rfl (fun j u hj => by simp at hj) (fun u hu => by simp at hu) (by simp at hlen; unfold maxLen; omega) (by simp at hlen; omega) hbase fun v' w' h1 h2 _ => ?_
      exact h v' w' (by simpa using h1) h2
    · obtain ⟨b', off', e, _⟩ := hin 0 (List.length_pos_iff.2 hl)
      cases e
      refine wpList_append_own w hgd s x 48 ho B 68 i0 _ 6 48 Try.underCodes hi hz0 hz1 hz2 rfl (by decide) v L.length (encC L) hs hown ⟨b, off, none⟩ l.length c (encC l) hx (encC_len l) (fun j u hj => by
        rw [Addr.add_mid]; exact cds_cells hin j u hj) (encC_one l) (by unfold maxLen; omega) (by omega) hbase fun v' w' h1 h2 _ => ?_
      exact h v' w' (by rw [encC_app, List.length_append]; exact h1) h2
  | none =>
    have hl : l = [] := by
      cases l with
      | nil => rfl
      | cons y l => obtain ⟨b', off', e, _⟩ := hin 0 (by simp); cases e
    subst hl
    obtain ⟨b, n, rfl⟩ := owns_shape hown
    have hle : L.length ≤ n := by
      obtain ⟨_, ⟨e, h0⟩ | ⟨g, cap, cur, e, _, _, hnc, _⟩⟩ := hown
      · omega
      · simp only [Value.slice.injEq] at e; omega
    have hrun := run_append_nothing (P := Try.prog) w 48 48 o.type 68 i0 Try.underCodes hi b L.length n hle (.slice none 0 c) ⟨.inl ⟨_, Try.underCodes⟩, fun w' => rfl, by rfl, by rfl, by simp, fun u hu => by simp at hu⟩
    refine wpList_plain hgd fun K' hK' => ?_
    have hs' : a.eval s = .slice b L.length n := hs
    have hx' : a.eval x = .slice none 0 c := hx
    unfold Oper.wp execOp
    simp only [ho, resolve, invoke, builtin, Sem.run_bind, Sem.run_pure, Result.andThen_ok, List.map_toArray, List.map_cons, List.map_nil, hs', hx', hrun]
    exact hK' _ _ (h _ _ (by simpa using hown) ⟨rfl, rfl, rfl, Nat.le_refl _, fun _ _ _ => rfl⟩)
end Go.Proofs.Ytjfpaelmcepidaa.PK
namespace Go.Proofs.Ytjfpaelmcepidaa.PK
open Go.RowKit Go.Maps

/-- Seats, in small numbers. -/
structure SeatsOk (w : World) (v : Value) (s : Seats) (places : Nat) : Prop where
  lie : SeatsIn w v s places
  col : ∀ r c, s.col r = some c → 0 ≤ c ∧ c < 10
  frm : ∀ r p, s.frm r = some p → 0 ≤ p ∧ p < 1000
  kl : s.k ≤ 8
theorem SeatsIn.below {w w' : World} {v : Value} {s : Seats} {places : Nat} (h : SeatsIn w v s places) (hb : Below w.heap.size w w') : SeatsIn w' v s places := by
  obtain ⟨a, b, c, e, h1, h2, h3⟩ := h
  exact ⟨a, b, c, e, h1.below hb, h2.below hb, h3.below hb⟩
theorem SeatsOk.below {w w' : World} {v : Value} {s : Seats} {places : Nat} (h : SeatsOk w v s places) (hb : Below w.heap.size w w') : SeatsOk w' v s places := ⟨h.lie.below hb, h.col, h.frm, h.kl⟩
def RdPost' (w : World) (y : Int × List Cd) (e : Ending) (w' : World) : Prop := (∃ aa cap, e = .returned (.tuple #[.int .i64 y.1, .slice aa y.2.length cap]) ∧ CdsIn w' aa y.2 ∧ ∀ b off, aa = some ⟨b, off, none⟩ → w.heap.size ≤ b) ∧ Below w.heap.size w w'
/-- What a region that draws its order may lean on. -/
def HoldW (w : World) (k : Nat) (w' : World) : Prop := w'.cell? ⟨w.heap.size, 3, none⟩ = some (.int .i64 (k : Int)) ∧ Below w.heap.size w w'
theorem HoldW.drew {w w' : World} {k : Nat} (h : HoldW w k w') : HoldW w k w'.drew := ⟨h.1, below_drew1 h.2⟩
theorem HoldW.alloc {w w' : World} {k : Nat} (h : HoldW w k w') (o : Obj) : HoldW w k (w'.alloc o) := ⟨keep h.1 ((Below.refl _ _).alloc (Nat.le_refl _) _), h.2.alloc h.2.size _⟩
theorem cds_one (w : World) (x : Cd) : CdsIn (w.alloc (.cells #[.int .i64 x.op, .int .i64 x.d, .int .i64 x.a, .int .i64 x.b, .int .u32 x.im, .int .i64 x.to] 68)) (some ⟨w.heap.size, 0, none⟩) [x] := fun k hk => by
  obtain rfl : k = 0 := by simp at hk; omega
  exact ⟨w.heap.size, 0, rfl, by simpa [atC] using cdAt_new w x 68⟩
set_option maxRecDepth 100000 in
set_option maxHeartbeats 2000000 in
theorem readS_any (v : Value) (s : Seats) (places : Nat) (r spare : Int) (w : World) (hs : SeatsOk w v s places) (hr : KV r) : Calls Try.prog 61 #[v, .int .i64 r, .int .i64 spare] w (RdPost' w (readS s r spare)) := by
  obtain ⟨⟨⟨a, b, c, rfl, ha, hb, hc⟩⟩, hcol, hfrm, hkl⟩ := hs
  have HA := Lib.hid ha; have HB := Lib.hid hb; have HC := Lib.hid hc; have HF := Lib.hid (hfrm r); have HV := Lib.hid hr; have HAt := Lib.hid at_any
  have hb0 : Below w.heap.size w (w.alloc (.cells #[.map (some a), .map (some b), .map (some c), .int .i64 (s.k : Int)] 59)) := (Below.refl _ _).alloc (Nat.le_refl _) _
  have HB0 := Lib.hid hb0
  have HA1 := Lib.hid (ha.below hb0); have HB1 := Lib.hid (hb.at.below hb0); have HC1 := Lib.hid (hc.below hb0)
  have c0 : (w.alloc (.cells #[.map (some a), .map (some b), .map (some c), .int .i64 (s.k : Int)] 59)).cell? ⟨w.heap.size, 0, none⟩ = some (.map (some a)) := by simp [go_sem]
  have c1 : (w.alloc (.cells #[.map (some a), .map (some b), .map (some c), .int .i64 (s.k : Int)] 59)).cell? ⟨w.heap.size, 1, none⟩ = some (.map (some b)) := by simp [go_sem]
  have c2 : (w.alloc (.cells #[.map (some a), .map (some b), .map (some c), .int .i64 (s.k : Int)] 59)).cell? ⟨w.heap.size, 2, none⟩ = some (.map (some c)) := by simp [go_sem]
  clear ha hb hc hcol hfrm hkl hr hb0
  generalize hy : readS s r spare = y
  have HY := Lib.hid hy; clear hy
  go_enter Try.func61, Try.ntmps61
  go_upto_region 1 with (fail)
  generalize w.alloc (.cells #[.map (some a), .map (some b), .map (some c), .int .i64 (s.k : Int)] 59) = w1 at *
  cases hcr : s.col r with
  | some x =>
    have HCr := Lib.hid hcr
    obtain rfl : y = (x, []) := HY.out.symm.trans (by unfold readS; rw [hcr])
    go_wp2_with (at_lookup; refine wpList_getok_mapI _ rfl _ _ 56 rfl Try.underlying56 a s.col HA1.out rfl r HV.out rfl HCr.out ?_)
    go_ret2
    exact ⟨⟨none, 0, rfl, CdsIn.nil _ _, fun _ _ e => (by cases e)⟩, HB0.out⟩
  | none =>
    have HCr := Lib.hid hcr
    cases hnr : s.num r with
    | some m =>
      have HNr := Lib.hid hnr
      obtain rfl : y = (spare, [cLi spare m]) := HY.out.symm.trans (by unfold readS; rw [hcr, hnr])
      go_wp2_with (first | (at_lookup; refine wpList_getok_mapI _ rfl _ _ 56 rfl Try.underlying56 a s.col HA1.out rfl r HV.out rfl HCr.out ?_) | (at_lookup; refine wpList_getok_mapU _ rfl _ _ 57 rfl Try.underlying57 c s.num HC1.out rfl r HV.out rfl HNr.out ?_))
      go_ret2
      exact ⟨⟨_, 1, rfl, cds_one w1 (cLi spare m), fun b off e => (by simp only [Option.some.injEq, Addr.mk.injEq] at e; have := HB0.out.size; omega)⟩, HB0.out.alloc HB0.out.size _⟩
    | none =>
      have HNr := Lib.hid hnr
      obtain ⟨p, hp⟩ : ∃ p, (s.frm r).getD 0 = p := ⟨_, rfl⟩
      obtain ⟨z, hz⟩ : ∃ z : Nat, z = 1024 + 4 * p.toNat := ⟨_, rfl⟩
      obtain rfl : y = (spare, [⟨20, spare, -1, 0, z, 0⟩]) := HY.out.symm.trans (by unfold readS; rw [hcr, hnr, hp, hz]; rfl)
      have HAp := Lib.hid (fun u => HAt.out p (by
        cases hf : s.frm r with
        | none => rw [hf] at hp; simp at hp; omega
        | some y => rw [hf] at hp; simp at hp; have := HF.out y hf; omega) u)
      have HP : Hid (numN (s.frm r) = p) := Lib.hid hp
      rw [← hz] at HAp
      clear hp hz
      go_wp2_with (first | (at_lookup; refine wpList_getok_mapI _ rfl _ _ 56 rfl Try.underlying56 a s.col HA1.out rfl r HV.out rfl HCr.out ?_) | (at_lookup; refine wpList_getok_mapU _ rfl _ _ 57 rfl Try.underlying57 c s.num HC1.out rfl r HV.out rfl HNr.out ?_) | (at_lookup; refine wpList_get_mapI _ rfl _ _ 56 rfl Try.underlying56 b s.frm HB1.out rfl r HV.out rfl ?_; rw [HP.out]))
      refine (HAp.out _).mono ?_; rintro e w2 ⟨rfl, rfl⟩
      go_wp2_with fail
      go_ret2
      exact ⟨⟨_, 1, rfl, cds_one w2 ⟨20, spare, -1, 0, z, 0⟩, fun b off e => (by simp only [Option.some.injEq, Addr.mk.injEq] at e; have := HB0.out.size; omega)⟩, HB0.out.alloc HB0.out.size _⟩
set_option maxRecDepth 100000 in
set_option maxHeartbeats 2000000 in
theorem writeS_any (v : Value) (s : Seats) (places : Nat) (r : Int) (w : World) (hs : SeatsOk w v s places) (hr : KV r) : Calls Try.prog 63 #[v, .int .i64 r] w (RdPost' w (writeS s r)) := by
  obtain ⟨⟨⟨a, b, c, rfl, ha, hb, hc⟩⟩, hcol, hfrm, hkl⟩ := hs
  have HA := Lib.hid ha; have HB := Lib.hid hb; have HC := Lib.hid hc; have HF := Lib.hid (hfrm r); have HV := Lib.hid hr; have HAt := Lib.hid at_any
  have hb0 : Below w.heap.size w (w.alloc (.cells #[.map (some a), .map (some b), .map (some c), .int .i64 (s.k : Int)] 59)) := (Below.refl _ _).alloc (Nat.le_refl _) _
  have HB0 := Lib.hid hb0
  have HA1 := Lib.hid (ha.below hb0); have HB1 := Lib.hid (hb.at.below hb0)
  have c0 : (w.alloc (.cells #[.map (some a), .map (some b), .map (some c), .int .i64 (s.k : Int)] 59)).cell? ⟨w.heap.size, 0, none⟩ = some (.map (some a)) := by simp [go_sem]
  have c1 : (w.alloc (.cells #[.map (some a), .map (some b), .map (some c), .int .i64 (s.k : Int)] 59)).cell? ⟨w.heap.size, 1, none⟩ = some (.map (some b)) := by simp [go_sem]
  have c3 : (w.alloc (.cells #[.map (some a), .map (some b), .map (some c), .int .i64 (s.k : Int)] 59)).cell? ⟨w.heap.size, 3, none⟩ = some (.int .i64 (s.k : Int)) := by simp [go_sem]
  clear ha hb hc hcol hfrm hkl hr hb0
  generalize hy : writeS s r = y
  have HY := Lib.hid hy; clear hy
  go_enter Try.func63, Try.ntmps63
  go_upto_region 1 with (fail)
  generalize w.alloc (.cells #[.map (some a), .map (some b), .map (some c), .int .i64 (s.k : Int)] 59) = w1 at *
  cases hcr : s.col r with
  | some x =>
    have HCr := Lib.hid hcr
    obtain rfl : y = (x, []) := HY.out.symm.trans (by unfold writeS; rw [hcr])
    go_wp2_with (at_lookup; refine wpList_getok_mapI _ rfl _ _ 56 rfl Try.underlying56 a s.col HA1.out rfl r HV.out rfl HCr.out ?_)
    go_ret2
    exact ⟨⟨none, 0, rfl, CdsIn.nil _ _, fun _ _ e => (by cases e)⟩, HB0.out⟩
  | none =>
    have HCr := Lib.hid hcr
    cases hfr : s.frm r with
    | none =>
      have HFr := Lib.hid hfr
      obtain rfl : y = ((s.k : Int), []) := HY.out.symm.trans (by unfold writeS; rw [hcr, hfr])
      go_wp2_with (first | (at_lookup; refine wpList_getok_mapI _ rfl _ _ 56 rfl Try.underlying56 a s.col HA1.out rfl r HV.out rfl HCr.out ?_) | (at_lookup; refine wpList_getok_mapI _ rfl _ _ 56 rfl Try.underlying56 b s.frm HB1.out rfl r HV.out rfl HFr.out ?_))
      go_ret2
      exact ⟨⟨none, 0, rfl, CdsIn.nil _ _, fun _ _ e => (by cases e)⟩, HB0.out⟩
    | some p =>
      have HFr := Lib.hid hfr
      obtain ⟨z, hz⟩ : ∃ z : Nat, z = 1024 + 4 * p.toNat := ⟨_, rfl⟩
      obtain rfl : y = ((s.k : Int), [⟨23, 0, -1, s.k, z, 0⟩]) := HY.out.symm.trans (by unfold writeS; rw [hcr, hfr, hz]; rfl)
      have HAp := Lib.hid (fun u => HAt.out p (by have := HF.out p hfr; omega) u)
      rw [← hz] at HAp
      have c3d : ({ w1 with drawn := w1.drawn + 1 } : World).cell? ⟨w.heap.size, 3, none⟩ = some (.int .i64 (s.k : Int)) := c3
      clear hz
      go_wp2_with (first | (at_lookup; refine wpList_getok_mapI _ rfl _ _ 56 rfl Try.underlying56 a s.col HA1.out rfl r HV.out rfl HCr.out ?_) | (at_lookup; refine wpList_getok_mapI _ rfl _ _ 56 rfl Try.underlying56 b s.frm HB1.out rfl r HV.out rfl HFr.out ?_))
      have hS : HoldW w s.k w1 := ⟨c3, HB0.out⟩
      go_region_held3 (fun w' => w'.cell? ⟨w.heap.size, 3, none⟩ = some (.int .i64 (s.k : Int)) ∧ Below w.heap.size w w') (first | exact hS | exact HoldW.drew (by assumption) | exact HoldW.alloc (by assumption) _) ((go_at_call 24; refine (HAp.out _).mono ?_; rintro e w2 ⟨rfl, rfl⟩))
      all_goals go_wp2_with fail
      all_goals go_ret2
      all_goals exact ⟨⟨_, 1, rfl, (cds_one w1 ⟨23, 0, -1, s.k, z, 0⟩).below (below_drew1 (Below.refl _ _)), fun b off e => (by simp only [Option.some.injEq, Addr.mk.injEq] at e; have := HB0.out.size; omega)⟩, below_drew1 (HB0.out.alloc HB0.out.size _)⟩
end Go.Proofs.Ytjfpaelmcepidaa.PK
namespace Go.Proofs.Ytjfpaelmcepidaa.PK
open Go.RowKit Go.Maps

theorem CdsIn.save {w w' : World} {a : Option Addr} {l : List Cd} {q : Nat} (h : CdsIn w a l) (hs : Save q w w') (hne : ∀ b off, a = some ⟨b, off, none⟩ → b ≠ q) : CdsIn w' a l := fun k hk => by
  obtain ⟨b, off, rfl, hc⟩ := h k hk
  have hb := hne b off rfl
  exact ⟨b, off, rfl, hs.cell hb hc.c0, hs.cell hb hc.c1, hs.cell hb hc.c2, hs.cell hb hc.c3, hs.cell hb hc.c4, hs.cell hb hc.c5⟩
theorem CdsIn.grown {w w' : World} {a : Option Addr} {l : List Cd} {row : Option Nat} (h : CdsIn w a l) (hg : w.grownBy w' row) (hne : ∀ b off, a = some ⟨b, off, none⟩ → ∀ g, row = some g → b ≠ g) : CdsIn w' a l := fun k hk => by
  obtain ⟨b, off, rfl, hc⟩ := h k hk
  have cs : ∀ {o : Nat} {v : Value}, w.cell? ⟨b, o, none⟩ = some v → w'.cell? ⟨b, o, none⟩ = some v := fun h1 => cell_same h1 (hg.block b (block_lt_of_cell h1) (fun e => hne b off rfl b e.symm rfl))
  exact ⟨b, off, rfl, cs hc.c0, cs hc.c1, cs hc.c2, cs hc.c3, cs hc.c4, cs hc.c5⟩
def cellsD (y : Cd) : Array Value := #[.int .i64 y.op, .int .i64 y.d, .int .i64 y.a, .int .i64 y.b, .int .u32 y.im, .int .i64 y.to]
/-- How things stand in code. -/
structure CSt (w0 w : World) (n q a b c : Nat) (s : Seats) (places : Nat) (x y : Cd) (vo : Value) (L : List Cd) : Prop where
  so : SeatsOk w (.agg #[.map (some a), .map (some b), .map (some c), .int .i64 (s.k : Int)]) s places
  c0 : w.cell? ⟨n, 0, none⟩ = some (.map (some a))
  c1 : w.cell? ⟨n, 1, none⟩ = some (.map (some b))
  c2 : w.cell? ⟨n, 2, none⟩ = some (.map (some c))
  c3 : w.cell? ⟨n, 3, none⟩ = some (.int .i64 (s.k : Int))
  xs : CdAt w (n + 1) 0 x
  yb : w.heap[q]? = some (.cells (cellsD y) 68 (0, 0))
  ow : w.ownsRow (q + 1) 68 6 vo L.length (encC L)
  low : Below n w0 w
  ord : n = w0.heap.size ∧ n + 1 < q ∧ a < n ∧ b < n ∧ c < n
section
variable {w0 w w' : World} {n q a b c : Nat} {s : Seats} {places : Nat} {x y y' : Cd} {vo v' : Value} {L L' : List Cd}
theorem CSt.qlt (h : CSt w0 w n q a b c s places x y vo L) : q < w.heap.size := lt_of_block h.yb
theorem CSt.below (h : CSt w0 w n q a b c s places x y vo L) (hb : Below w.heap.size w w') : CSt w0 w' n q a b c s places x y vo L :=
  ⟨h.so.below hb, keep h.c0 hb, keep h.c1 hb, keep h.c2 hb, keep h.c3 hb, h.xs.keep hb, (hb.block q h.qlt).trans h.yb, owns_below h.ow hb, h.low.trans (hb.mono (by have := h.qlt; have := h.ord; omega)), h.ord⟩
theorem SeatsIn.same {v : Value} (h : SeatsIn w v s places) (hs : ∀ k, k < q → w'.heap[k]? = w.heap[k]?) (hv : ∀ a b c k, v = .agg #[.map (some a), .map (some b), .map (some c), .int .i64 k] → a < q ∧ b < q ∧ c < q) : SeatsIn w' v s places := by
  obtain ⟨a, b, c, e, h1, h2, h3⟩ := h
  have := hv a b c _ e
  exact ⟨a, b, c, e, h1.same (hs _ this.1), h2.same (hs _ this.2.1), h3.same (hs _ this.2.2)⟩
/-- A change behind block q - 1, where q's content and the row are known. -/
theorem CSt.behind (h : CSt w0 w n q a b c s places x y vo L) (hs : ∀ k, k < q → w'.heap[k]? = w.heap[k]?) (hlow : Below n w w') (hy : w'.heap[q]? = some (.cells (cellsD y') 68 (0, 0))) (ho : w'.ownsRow (q + 1) 68 6 v' L'.length (encC L')) : CSt w0 w' n q a b c s places x y' v' L' := by
  have hr := h.ord
  have cs : ∀ {b off : Nat} {v : Value}, w.cell? ⟨b, off, none⟩ = some v → b < q → w'.cell? ⟨b, off, none⟩ = some v := fun h1 h2 => cell_same h1 (hs _ h2)
  refine ⟨⟨h.so.lie.same hs fun a' b' c' k e => ?_, h.so.col, h.so.frm, h.so.kl⟩, cs h.c0 (by omega), cs h.c1 (by omega), cs h.c2 (by omega), cs h.c3 (by omega), ⟨cs h.xs.c0 (by omega), cs h.xs.c1 (by omega), cs h.xs.c2 (by omega), cs h.xs.c3 (by omega), cs h.xs.c4 (by omega), cs h.xs.c5 (by omega)⟩, hy, ho, h.low.trans hlow, hr⟩
  cases e
  omega
theorem CSt.set (h : CSt w0 w n q a b c s places x y vo L) (j : Nat) (v : Value) (he : (cellsD y).setIfInBounds j v = cellsD y') : CSt w0 (w.setCell ⟨q, j, none⟩ v) n q a b c s places x y' vo L := by
  refine h.behind (fun k hk => Below.heap_setCell _ _ _ _ (by show k ≠ q; omega)) ((Below.refl _ _).setCell (show n ≤ q by have := h.ord; omega) _) ?_ ?_
  · rw [heap_setCell_same w q j _ _ v h.yb, he]
  · exact owns_of_block h.ow fun g h1 h2 _ => Below.heap_setCell _ _ _ _ (by show g ≠ q; omega)
theorem CSt.app (h : CSt w0 w n q a b c s places x y vo L) (hg : w.grownBy w' vo.ownBlock) (ho : w'.ownsRow (q + 1) 68 6 v' L'.length (encC L')) : CSt w0 w' n q a b c s places x y v' L' := by
  have hq := h.qlt
  have hv : ∀ g, vo.ownBlock = some g → q + 1 ≤ g := fun g e => (owns_block h.ow e).1
  have hs : ∀ k, k ≤ q → w'.heap[k]? = w.heap[k]? := fun k hk => hg.block k (by omega) (fun e => by have := hv k e.symm; omega)
  exact h.behind (fun k hk => hs k (by omega)) ⟨hg.os, hg.tape, hg.output, hg.size, fun k hk => hs k (by have := h.ord; omega)⟩ ((hs q (Nat.le_refl _)).trans h.yb) ho
theorem CSt.ycell (h : CSt w0 w n q a b c s places x y vo L) (j : Nat) : w.cell? ⟨q, j, none⟩ = (cellsD y)[j]? := cell_of_row w q j _ _ _ h.yb
theorem CSt.yfree (h : CSt w0 w n q a b c s places x y vo L) (j : Nat) : w.frozen? ⟨q, j, none⟩ = false := frozen_of_row w q j _ _ h.yb
theorem CSt.ys (h : CSt w0 w n q a b c s places x y vo L) : CdAt w q 0 y := ⟨h.ycell 0, h.ycell 1, h.ycell 2, h.ycell 3, h.ycell 4, h.ycell 5⟩
theorem CSt.start (hs : SeatsOk w (.agg #[.map (some a), .map (some b), .map (some c), .int .i64 (s.k : Int)]) s places) (c0 : w.cell? ⟨n, 0, none⟩ = some (.map (some a))) (c1 : w.cell? ⟨n, 1, none⟩ = some (.map (some b))) (c2 : w.cell? ⟨n, 2, none⟩ = some (.map (some c))) (c3 : w.cell? ⟨n, 3, none⟩ = some (.int .i64 (s.k : Int)))
    (hx : CdAt w (n + 1) 0 x) (hb : Below n w0 w) (hn : n = w0.heap.size ∧ n + 1 < w.heap.size ∧ a < n ∧ b < n ∧ c < n) : CSt w0 (w.alloc (.cells #[.int .i64 x.op, .int .i64 x.d, .int .i64 x.a, .int .i64 x.b, .int .u32 x.im, .int .i64 x.to] 68)) n w.heap.size a b c s places x x (.slice none 0 0) [] :=
  have hba : Below w.heap.size w (w.alloc (.cells #[.int .i64 x.op, .int .i64 x.d, .int .i64 x.a, .int .i64 x.b, .int .u32 x.im, .int .i64 x.to] 68)) := (Below.refl _ _).alloc (Nat.le_refl _) _
  ⟨hs.below hba, keep c0 hba, keep c1 hba, keep c2 hba, keep c3 hba, hx.keep hba, heap_alloc_new _ _, owns_nil _ _ _ _, hb.alloc (by omega) _, hn⟩
end
theorem readS_len (s : Seats) (r sp : Int) : (readS s r sp).2.length ≤ 1 := by
  unfold readS
  split
  · simp
  · split <;> simp
theorem writeS_len (s : Seats) (r : Int) : (writeS s r).2.length ≤ 1 := by
  unfold writeS
  split
  · simp
  · split <;> simp
theorem readsA_is (op : Int) {r : Bool} (h : fA op = r) (w : World) : Calls Try.prog 60 #[.int .i64 op] w fun e w' => e = .returned (.bool r) ∧ w = w' := by
  rw [← h]; exact (readsA_any op w).mono fun _ _ h => ⟨h.1, h.2.symm⟩
theorem readsB_is (op : Int) {r : Bool} (h : fB op = r) (w : World) : Calls Try.prog 62 #[.int .i64 op] w fun e w' => e = .returned (.bool r) ∧ w = w' := by
  rw [← h]; exact (readsB_any op w).mono fun _ _ h => ⟨h.1, h.2.symm⟩
theorem has_a {x : Cd} (h : isCodeB x 200 400 = true) : (usesL x).contains x.a = (fA x.op && decide (0 ≤ x.a)) := by
  obtain ⟨_, _, _, ha, ha0, hb, hb0, _⟩ := code_parts h
  cases hA : (fA x.op && decide (0 ≤ x.a))
  · cases hc : (usesL x).contains x.a
    · rfl
    · exfalso
      rw [List.contains_iff_mem] at hc
      unfold usesL at hc
      rw [if_neg (by rw [hA]; decide)] at hc
      cases hB : fB x.op
      · rw [hB] at hc; simp at hc
      · rw [hB] at hc
        have e : x.a = x.b := by simpa using hc
        have hfa : fA x.op = true := by
          unfold fB at hB; unfold fA
          have := of_decide_eq_true hB
          exact decide_eq_true (by omega)
        have := hb hB
        rw [hfa, Bool.true_and, decide_eq_false_iff_not] at hA
        omega
  · rw [List.contains_iff_mem]
    unfold usesL
    rw [if_pos hA]
    split
    · split <;> simp
    · simp
theorem kv_of {x : Cd} (h : isCodeB x 200 400 = true) : KV x.d ∧ (0 ≤ x.a → KV x.a) ∧ KV x.b := by
  obtain ⟨_, hd, hd0, ha, ha0, hb, hb0, _⟩ := code_parts h
  refine ⟨?_, fun h0 => ?_, ?_⟩
  · cases e : fD x.op
    · rw [hd0 e]; exact ⟨by decide, by decide⟩
    · have := hd e; exact ⟨this.1, by omega⟩
  · cases e : fA x.op
    · rw [ha0 e]; exact ⟨by decide, by decide⟩
    · have := ha e; exact ⟨h0, by omega⟩
  · cases e : fB x.op
    · rw [hb0 e]; exact ⟨by decide, by decide⟩
    · have := hb e; exact ⟨this.1, by omega⟩
def CodePost (w : World) (L : List Cd) (e : Ending) (w' : World) : Prop := (∃ v, e = .returned v ∧ w'.ownsRow w.heap.size 68 6 v L.length (encC L)) ∧ Below w.heap.size w w'
set_option maxRecDepth 100000 in
set_option maxHeartbeats 8000000 in
theorem codeS_any (v : Value) (s : Seats) (places : Nat) (x : Cd) (w : World) (hs : SeatsOk w v s places) (hx : isCodeB x 200 400 = true) : Calls Try.prog 25 #[v, (.agg #[.int .i64 x.op, .int .i64 x.d, .int .i64 x.a, .int .i64 x.b, .int .u32 x.im, .int .i64 x.to])] w (CodePost w (codeS s x)) := by
  obtain ⟨i0, hi, hz0, hz1, hz2⟩ := info_parts Try.infoCode
  have HDef := Lib.hid (Defines_any x hx)
  have HUse := Lib.hid (Uses_any x hx)
  have HA := Lib.hid (has_a hx)
  obtain ⟨hkd, hka, hkb⟩ := kv_of hx
  have HKd := Lib.hid hkd; have HKa := Lib.hid hka; have HKb := Lib.hid hkb
  have HRd := Lib.hid (readS_any (s := s) (places := places))
  have HWr := Lib.hid (writeS_any (s := s) (places := places))
  have HCon := Lib.hid contains_any
  have HUl := Lib.hid (usesL_len x)
  have hsv := hs.lie.is
  have HS := Lib.hid hs
  have hk8 : (s.k : Int) ≤ 8 := by have := hs.kl; omega
  clear hs hx hkd hka hkb
  obtain ⟨a, b, c, rfl, ha, hb, hc⟩ := hsv
  have hlt : a < w.heap.size ∧ b < w.heap.size ∧ c < w.heap.size := ⟨ha.lt, hb.lt, hc.lt⟩
  clear ha hb hc
  generalize hL : codeS s x = Lc
  have HL := Lib.hid hL; clear hL
  have hb0 : Below w.heap.size w ((w.alloc (.cells #[.map (some a), .map (some b), .map (some c), .int .i64 (s.k : Int)] 59)).alloc (.cells #[.int .i64 x.op, .int .i64 x.d, .int .i64 x.a, .int .i64 x.b, .int .u32 x.im, .int .i64 x.to] 68)) := ((Below.refl _ _).alloc (Nat.le_refl _) _).alloc (by simp) _
  have HB0 := Lib.hid hb0
  have HS0 := Lib.hid (HS.out.below hb0)
  have c0 : ((w.alloc (.cells #[.map (some a), .map (some b), .map (some c), .int .i64 (s.k : Int)] 59)).alloc (.cells #[.int .i64 x.op, .int .i64 x.d, .int .i64 x.a, .int .i64 x.b, .int .u32 x.im, .int .i64 x.to] 68)).cell? ⟨w.heap.size, 0, none⟩ = some (.map (some a)) := by simp [go_sem]
  have c1 : ((w.alloc (.cells #[.map (some a), .map (some b), .map (some c), .int .i64 (s.k : Int)] 59)).alloc (.cells #[.int .i64 x.op, .int .i64 x.d, .int .i64 x.a, .int .i64 x.b, .int .u32 x.im, .int .i64 x.to] 68)).cell? ⟨w.heap.size, 1, none⟩ = some (.map (some b)) := by simp [go_sem]
  have c2 : ((w.alloc (.cells #[.map (some a), .map (some b), .map (some c), .int .i64 (s.k : Int)] 59)).alloc (.cells #[.int .i64 x.op, .int .i64 x.d, .int .i64 x.a, .int .i64 x.b, .int .u32 x.im, .int .i64 x.to] 68)).cell? ⟨w.heap.size, 2, none⟩ = some (.map (some c)) := by simp [go_sem]
  have c3 : ((w.alloc (.cells #[.map (some a), .map (some b), .map (some c), .int .i64 (s.k : Int)] 59)).alloc (.cells #[.int .i64 x.op, .int .i64 x.d, .int .i64 x.a, .int .i64 x.b, .int .u32 x.im, .int .i64 x.to] 68)).cell? ⟨w.heap.size, 3, none⟩ = some (.int .i64 (s.k : Int)) := by simp [go_sem]
  have hx : CdAt ((w.alloc (.cells #[.map (some a), .map (some b), .map (some c), .int .i64 (s.k : Int)] 59)).alloc (.cells #[.int .i64 x.op, .int .i64 x.d, .int .i64 x.a, .int .i64 x.b, .int .u32 x.im, .int .i64 x.to] 68)) (w.heap.size + 1) 0 x := by
    have := cdAt_new (w.alloc (.cells #[.map (some a), .map (some b), .map (some c), .int .i64 (s.k : Int)] 59)) x 68
    simpa using this
  have hsz : ((w.alloc (.cells #[.map (some a), .map (some b), .map (some c), .int .i64 (s.k : Int)] 59)).alloc (.cells #[.int .i64 x.op, .int .i64 x.d, .int .i64 x.a, .int .i64 x.b, .int .u32 x.im, .int .i64 x.to] 68)).heap.size = w.heap.size + 2 := by simp
  have HSz := Lib.hid hsz
  clear hb0 hsz
  go_enter Try.func25, Try.ntmps25
  go_upto_region 1 with (fail)
  generalize (w.alloc (.cells #[.map (some a), .map (some b), .map (some c), .int .i64 (s.k : Int)] 59)).alloc (.cells #[.int .i64 x.op, .int .i64 x.d, .int .i64 x.a, .int .i64 x.b, .int .u32 x.im, .int .i64 x.to] 68) = w1 at *
  have HC0 := Lib.hid c0; have HC1 := Lib.hid c1; have HC2 := Lib.hid c2; have HC3 := Lib.hid c3; have HX := Lib.hid hx
  obtain ⟨x0, x1, x2, x3, x4, x5⟩ := HX.out
  simp only [Nat.zero_add] at x1 x2 x3 x4 x5
  clear hx
  go_wp2_with fail
  refine (HUse.out _).mono ?_; rintro e w2 ⟨⟨uv, rfl, huo⟩, hb2⟩
  obtain ⟨ua, uc, rfl⟩ := owns_shape huo
  have hui : IntsIn w2 ua (usesL x) := by
    obtain ⟨a', c', e', h', _⟩ := ints_of_owns huo
    cases e'; assumption
  have HX2 := Lib.hid (HX.out.keep hb2)
  have k2 := keep c2 hb2
  have HUi := Lib.hid hui
  have HB2 := Lib.hid (HB0.out.trans (hb2.mono HB0.out.size))
  have HS2 := Lib.hid (HS0.out.below hb2)
  have HD2 := Lib.hid hb2
  clear hui huo hb2 c0 c1 c2 c3 x0 x1 x2 x3 x4 x5 k2
  obtain ⟨x0, x1, x2, x3, x4, x5⟩ := HX2.out
  simp only [Nat.zero_add] at x1 x2 x3 x4 x5
  go_wp2_with fail
  refine (HDef.out _).mono ?_; rintro e w3 ⟨rfl, hb3⟩
  have HB3 := Lib.hid (HB2.out.trans (hb3.mono HB2.out.size))
  have HS3 := Lib.hid (HS2.out.below hb3)
  have HX3 := Lib.hid (HX2.out.keep hb3)
  have HUi3 := Lib.hid (HUi.out.below hb3)
  have HC03 := Lib.hid (keep (keep HC0.out HD2.out) hb3); have HC13 := Lib.hid (keep (keep HC1.out HD2.out) hb3); have HC23 := Lib.hid (keep (keep HC2.out HD2.out) hb3); have HC33 := Lib.hid (keep (keep HC3.out HD2.out) hb3)
  have HSz3 : Hid (w.heap.size + 2 ≤ w3.heap.size) := Lib.hid (by have := HSz.out; have := HD2.out.size; have := hb3.size; omega)
  have HM3 : Hid (MapAt Try.prog 3 65 keyI litU KV w3 c s.num) := Lib.hid (by
    obtain ⟨a', b', c', e, _, _, h3⟩ := HS3.out.lie.is
    cases e; exact h3)
  have c2 := HC23.out
  clear hb3 x0 x1 x2 x3 x4 x5 HC0 HC1 HC2 HC3 HX HX2 HB0 HB2 HS0 HS2 HUi HD2 HSz
  obtain ⟨on, hon⟩ : ∃ on, s.num x.d = on := ⟨_, rfl⟩
  have HN := Lib.hid hon
  by_cases hret : fD x.op = true ∧ on.isSome = true
  · obtain ⟨hd, hs⟩ := hret
    obtain rfl : Lc = [] := HL.out.symm.trans (by unfold codeS; rw [hon, hd, hs]; rfl)
    rw [hd]
    obtain ⟨nn, rfl⟩ := Option.isSome_iff_exists.1 hs
    clear hon
    go_wp2_with (at_lookup; refine wpList_getok_mapU _ rfl _ _ 57 rfl Try.underlying57 c s.num HM3.out rfl x.d HKd.out rfl HN.out ?_)
    go_ret
    exact ⟨⟨_, rfl, owns_nil _ _ _ _⟩, HB3.out⟩
  have HKeep : Hid (codeS s x = (opndA s x).2 ++ ((opndB s x).2 ++ (mainS s x :: (opndD s x).2))) := Lib.hid (by
    unfold codeS
    rw [if_neg (by rw [hon, Bool.and_eq_true]; exact hret)])
  have hcond : fD x.op = false ∨ on = none := by
    cases h1 : fD x.op
    · exact .inl rfl
    · refine .inr ?_
      cases h2 : on with
      | none => rfl
      | some m => exact absurd ⟨h1, by rw [h2]; rfl⟩ hret
  clear hret hon
  obtain ⟨fd, hfd⟩ : ∃ fd, fD x.op = fd := ⟨_, rfl⟩
  have HFd := Lib.hid hfd
  rw [hfd] at hcond ⊢
  clear hfd
  cases fd
  · clear hcond
    have S0 := Lib.hid (CSt.start HS3.out HC03.out HC13.out HC23.out HC33.out HX3.out HB3.out ⟨rfl, by have := HSz3.out; omega, hlt⟩)
    have HUi4 := Lib.hid (HUi3.out.below ((Below.refl w3.heap.size w3).alloc (Nat.le_refl _) (.cells #[.int .i64 x.op, .int .i64 x.d, .int .i64 x.a, .int .i64 x.b, .int .u32 x.im, .int .i64 x.to] 68)))
    obtain ⟨x0, x1, x2, x3, x4, x5⟩ := HX3.out
    simp only [Nat.zero_add] at x1 x2 x3 x4 x5
    go_upto_region 8 with (at_lookup; refine wpList_getok_mapU _ rfl _ _ 57 rfl Try.underlying57 c s.num HM3.out rfl x.d HKd.out rfl HN.out ?_)
    clear c2 x0 x1 x2 x3 x4 x5
    generalize w3.alloc (.cells #[.int .i64 x.op, .int .i64 x.d, .int .i64 x.a, .int .i64 x.b, .int .u32 x.im, .int .i64 x.to] 68) = w4 at *
    generalize w3.heap.size = q at *
    by_cases hA : (fA x.op && decide (0 ≤ x.a)) = true
    · have HCc := Lib.hid (contains_is (r := true) (by rw [HA.out, hA]) (HUi4.out) (cap := uc) (by have := HUl.out; omega))
      have HRa := Lib.hid (fun u => readsA_is x.op (r := true) (by rw [Bool.and_eq_true] at hA; exact hA.1) u)
      have ha0 : 0 ≤ x.a := by rw [Bool.and_eq_true] at hA; exact of_decide_eq_true hA.2
      have HOa : Hid (opndA s x = readS s x.a s.k) := Lib.hid (by unfold opndA; rw [if_pos hA])
      have c0 := S0.out.c0; have c1 := S0.out.c1; have c2 := S0.out.c2; have c3 := S0.out.c3
      obtain ⟨x0, x1, x2, x3, x4, x5⟩ := S0.out.xs
      simp only [Nat.zero_add] at x1 x2 x3 x4 x5
      go_wp2_with fail
      refine HCc.out.mono ?_; rintro e wx1 ⟨rfl, rfl⟩
      go_wp2_with fail
      refine (HRa.out _).mono ?_; rintro e wx2 ⟨rfl, rfl⟩
      clear c0 c1 c2 c3 x0 x1 x2 x3 x4 x5
      have c0 := S0.out.c0; have c1 := S0.out.c1; have c2 := S0.out.c2; have c3 := S0.out.c3
      obtain ⟨x0, x1, x2, x3, x4, x5⟩ := S0.out.xs
      simp only [Nat.zero_add] at x1 x2 x3 x4 x5
      have HCA := Lib.hid (HRd.out (.agg #[.map (some a), .map (some b), .map (some c), .int .i64 (s.k : Int)]) x.a s.k w4 S0.out.so (HKa.out ha0))
      obtain ⟨gA, hgA⟩ : ∃ y, readS s x.a s.k = y := ⟨_, rfl⟩
      have HGlA : Hid (gA.2.length ≤ 1) := Lib.hid (by rw [← hgA]; exact readS_len _ _ _)
      rw [hgA] at HCA
      have HGA := Lib.hid hgA
      clear hgA
      go_wp2_with fail
      refine HCA.out.mono ?_; rintro e wrA ⟨⟨aaA, capA, rfl, hinA, hnewA⟩, hbA⟩
      have HRA := Lib.hid (S0.out.below hbA)
      have HInA := Lib.hid hinA; have HNwA := Lib.hid (fun b off e => Nat.ne_of_gt (Nat.lt_of_lt_of_le S0.out.qlt (hnewA b off e)))
      have HNvA := Lib.hid (fun b off e g hg => Nat.ne_of_gt (Nat.lt_of_lt_of_le (owns_block S0.out.ow (g := g) hg).2 (hnewA b off e)))
      clear hinA hnewA hbA
      clear c0 c1 c2 c3 x0 x1 x2 x3 x4 x5
      have ycA := HRA.out.ycell 2
      have yfA := HRA.out.yfree 2
      change wrA.cell? ⟨q, 2, none⟩ = some _ at ycA
      have HTA := Lib.hid (HRA.out.set (y' := ⟨x.op, x.d, gA.1, x.b, x.im, x.to⟩) 2 (.int .i64 gA.1) rfl)
      have HItA := Lib.hid (HInA.out.save (Save.set q 2 wrA (.int .i64 gA.1)) HNwA.out)
      have HSmA : Hid (([] : List Cd).length + gA.2.length ≤ 1000000) := Lib.hid (by have := HGlA.out; simp; omega)
      go_upto_region 12 with (at_builtin; refine wpList_append_codes _ rfl _ _ rfl (q + 1) _ _ rfl HTA.out.ow aaA _ (gA.2) rfl HItA.out HSmA.out (Nat.succ_le_of_lt HTA.out.qlt) ?_; intro voA wzA hoA hgrA; have S1 := Lib.hid (HTA.out.app hgrA hoA); clear hoA hgrA)
      clear ycA yfA
      cases hB : fB x.op
      rotate_left
      · have HRb := Lib.hid (fun u => readsB_is x.op (r := true) hB u)
        have HOb : Hid (opndB s x = readS s x.b (s.k + 1)) := Lib.hid (by unfold opndB; rw [if_pos hB])
        have c0 := S1.out.c0; have c1 := S1.out.c1; have c2 := S1.out.c2; have c3 := S1.out.c3
        obtain ⟨x0, x1, x2, x3, x4, x5⟩ := S1.out.xs
        simp only [Nat.zero_add] at x1 x2 x3 x4 x5
        go_wp2_with fail
        refine (HRb.out _).mono ?_; rintro e wx3 ⟨rfl, rfl⟩
        clear c0 c1 c2 c3 x0 x1 x2 x3 x4 x5
        have c0 := S1.out.c0; have c1 := S1.out.c1; have c2 := S1.out.c2; have c3 := S1.out.c3
        obtain ⟨x0, x1, x2, x3, x4, x5⟩ := S1.out.xs
        simp only [Nat.zero_add] at x1 x2 x3 x4 x5
        have HCB := Lib.hid (HRd.out (.agg #[.map (some a), .map (some b), .map (some c), .int .i64 (s.k : Int)]) x.b (s.k + 1) wzA S1.out.so HKb.out)
        obtain ⟨gB, hgB⟩ : ∃ y, readS s x.b (s.k + 1) = y := ⟨_, rfl⟩
        have HGlB : Hid (gB.2.length ≤ 1) := Lib.hid (by rw [← hgB]; exact readS_len _ _ _)
        rw [hgB] at HCB
        have HGB := Lib.hid hgB
        clear hgB
        go_wp2_with fail
        refine HCB.out.mono ?_; rintro e wrB ⟨⟨aaB, capB, rfl, hinB, hnewB⟩, hbB⟩
        have HRB := Lib.hid (S1.out.below hbB)
        have HInB := Lib.hid hinB; have HNwB := Lib.hid (fun b off e => Nat.ne_of_gt (Nat.lt_of_lt_of_le S1.out.qlt (hnewB b off e)))
        have HNvB := Lib.hid (fun b off e g hg => Nat.ne_of_gt (Nat.lt_of_lt_of_le (owns_block S1.out.ow (g := g) hg).2 (hnewB b off e)))
        clear hinB hnewB hbB
        clear c0 c1 c2 c3 x0 x1 x2 x3 x4 x5
        have ycB := HRB.out.ycell 3
        have yfB := HRB.out.yfree 3
        change wrB.cell? ⟨q, 3, none⟩ = some _ at ycB
        have HTB := Lib.hid (HRB.out.set (y' := ⟨x.op, x.d, gA.1, gB.1, x.im, x.to⟩) 3 (.int .i64 gB.1) rfl)
        have HItB := Lib.hid (HInB.out.save (Save.set q 3 wrB (.int .i64 gB.1)) HNwB.out)
        have HSmB : Hid (([] ++ gA.2 : List Cd).length + gB.2.length ≤ 1000000) := Lib.hid (by have := HGlB.out; have := HGlA.out; simp; omega)
        go_upto_region 16 with (at_builtin; refine wpList_append_codes _ rfl _ _ rfl (q + 1) _ _ rfl HTB.out.ow aaB _ (gB.2) rfl HItB.out HSmB.out (Nat.succ_le_of_lt HTB.out.qlt) ?_; intro voB wzB hoB hgrB; have S2 := Lib.hid (HTB.out.app hgrB hoB); clear hoB hgrB)
        clear ycB yfB
        have HOd : Hid (opndD s x = (x.d, [])) := Lib.hid (by unfold opndD; rw [if_neg (by rw [HFd.out]; decide)])
        go_upto_region 18 with (fail)
        have S3 := S2
        obtain ⟨y0, y1, y2, y3, y4, y5⟩ := S3.out.ys
        simp only [Nat.zero_add] at y0 y1 y2 y3 y4 y5
        have hbal : Below wzB.heap.size wzB (wzB.alloc (.cells (cellsD ⟨x.op, x.d, gA.1, gB.1, x.im, x.to⟩) 68)) := (Below.refl _ _).alloc (Nat.le_refl _) _
        have S4 := Lib.hid (S3.out.below hbal)
        have HIy : Hid (CdsIn (wzB.alloc (.cells (cellsD ⟨x.op, x.d, gA.1, gB.1, x.im, x.to⟩) 68)) (some ⟨wzB.heap.size, 0, none⟩) [⟨x.op, x.d, gA.1, gB.1, x.im, x.to⟩]) := Lib.hid (cds_one _ _)
        have HItE : Hid (CdsIn (wzB.alloc (.cells (cellsD ⟨x.op, x.d, gA.1, gB.1, x.im, x.to⟩) 68)) none ([])) := Lib.hid (CdsIn.nil _ _)
        have HSmE : Hid (([] ++ gA.2 ++ gB.2 : List Cd).length + [(⟨x.op, x.d, gA.1, gB.1, x.im, x.to⟩ : Cd)].length ≤ 1000000) := Lib.hid (by have := HGlA.out; have := HGlB.out; simp; try omega)
        have HSmF : Hid (([] ++ gA.2 ++ gB.2 ++ [(⟨x.op, x.d, gA.1, gB.1, x.im, x.to⟩ : Cd)]).length + ([] : List Cd).length ≤ 1000000) := Lib.hid (by have := HGlA.out; have := HGlB.out; simp; try omega)
        have HFin : Hid (([] ++ gA.2 ++ gB.2 ++ [(⟨x.op, x.d, gA.1, gB.1, x.im, x.to⟩ : Cd)]) ++ [] = Lc) := Lib.hid (by rw [← HL.out, HKeep.out]; unfold mainS; rw [HOa.out, HOb.out, HOd.out]; rw [HGA.out]; rw [HGB.out]; simp)
        unfold cellsD at S4 HIy HItE
        clear hbal
        have HLe4 := Lib.hid (Nat.succ_le_of_lt S4.out.qlt)
        go_wp2_with (first | (at_builtin; refine wpList_append_codes _ rfl _ _ rfl (q + 1) _ _ rfl S4.out.ow _ 1 [⟨x.op, x.d, gA.1, gB.1, x.im, x.to⟩] rfl HIy.out HSmE.out HLe4.out ?_; intro voE wzE hoE hgrE; have S5 := Lib.hid (S4.out.app hgrE hoE); have HItF := Lib.hid (HItE.out.grown hgrE (fun _ _ e => by cases e)); clear hoE hgrE) | (at_builtin; refine wpList_append_codes _ rfl _ _ rfl (q + 1) _ _ rfl S5.out.ow none _ ([]) rfl HItF.out HSmF.out (Nat.succ_le_of_lt S5.out.qlt) ?_; intro voF wzF hoF hgrF; have S6 := Lib.hid (S5.out.app hgrF hoF); clear hoF hgrF))
        go_ret
        refine ⟨⟨_, rfl, ?_⟩, S6.out.low⟩
        have hfin := owns_base S6.out.ow (B' := w.heap.size) (by have := S6.out.ord; omega)
        rw [HFin.out] at hfin
        exact hfin
      · have HRb := Lib.hid (fun u => readsB_is x.op (r := false) hB u)
        have HOb : Hid (opndB s x = (x.b, [])) := Lib.hid (by unfold opndB; rw [if_neg (by rw [hB]; decide)])
        have S2 := S1
        have c0 := S1.out.c0; have c1 := S1.out.c1; have c2 := S1.out.c2; have c3 := S1.out.c3
        obtain ⟨x0, x1, x2, x3, x4, x5⟩ := S1.out.xs
        simp only [Nat.zero_add] at x1 x2 x3 x4 x5
        go_wp2_with fail
        refine (HRb.out _).mono ?_; rintro e wx3 ⟨rfl, rfl⟩
        go_upto_region 16 with (fail)
        clear c0 c1 c2 c3 x0 x1 x2 x3 x4 x5
        have HOd : Hid (opndD s x = (x.d, [])) := Lib.hid (by unfold opndD; rw [if_neg (by rw [HFd.out]; decide)])
        go_upto_region 18 with (fail)
        have S3 := S2
        obtain ⟨y0, y1, y2, y3, y4, y5⟩ := S3.out.ys
        simp only [Nat.zero_add] at y0 y1 y2 y3 y4 y5
        have hbal : Below wzA.heap.size wzA (wzA.alloc (.cells (cellsD ⟨x.op, x.d, gA.1, x.b, x.im, x.to⟩) 68)) := (Below.refl _ _).alloc (Nat.le_refl _) _
        have S4 := Lib.hid (S3.out.below hbal)
        have HIy : Hid (CdsIn (wzA.alloc (.cells (cellsD ⟨x.op, x.d, gA.1, x.b, x.im, x.to⟩) 68)) (some ⟨wzA.heap.size, 0, none⟩) [⟨x.op, x.d, gA.1, x.b, x.im, x.to⟩]) := Lib.hid (cds_one _ _)
        have HItE : Hid (CdsIn (wzA.alloc (.cells (cellsD ⟨x.op, x.d, gA.1, x.b, x.im, x.to⟩) 68)) none ([])) := Lib.hid (CdsIn.nil _ _)
        have HSmE : Hid (([] ++ gA.2 : List Cd).length + [(⟨x.op, x.d, gA.1, x.b, x.im, x.to⟩ : Cd)].length ≤ 1000000) := Lib.hid (by have := HGlA.out; simp; try omega)
        have HSmF : Hid (([] ++ gA.2 ++ [(⟨x.op, x.d, gA.1, x.b, x.im, x.to⟩ : Cd)]).length + ([] : List Cd).length ≤ 1000000) := Lib.hid (by have := HGlA.out; simp; try omega)
        have HFin : Hid (([] ++ gA.2 ++ [(⟨x.op, x.d, gA.1, x.b, x.im, x.to⟩ : Cd)]) ++ [] = Lc) := Lib.hid (by rw [← HL.out, HKeep.out]; unfold mainS; rw [HOa.out, HOb.out, HOd.out]; rw [HGA.out]; simp)
        unfold cellsD at S4 HIy HItE
        clear hbal
        have HLe4 := Lib.hid (Nat.succ_le_of_lt S4.out.qlt)
        go_wp2_with (first | (at_builtin; refine wpList_append_codes _ rfl _ _ rfl (q + 1) _ _ rfl S4.out.ow _ 1 [⟨x.op, x.d, gA.1, x.b, x.im, x.to⟩] rfl HIy.out HSmE.out HLe4.out ?_; intro voE wzE hoE hgrE; have S5 := Lib.hid (S4.out.app hgrE hoE); have HItF := Lib.hid (HItE.out.grown hgrE (fun _ _ e => by cases e)); clear hoE hgrE) | (at_builtin; refine wpList_append_codes _ rfl _ _ rfl (q + 1) _ _ rfl S5.out.ow none _ ([]) rfl HItF.out HSmF.out (Nat.succ_le_of_lt S5.out.qlt) ?_; intro voF wzF hoF hgrF; have S6 := Lib.hid (S5.out.app hgrF hoF); clear hoF hgrF))
        go_ret
        refine ⟨⟨_, rfl, ?_⟩, S6.out.low⟩
        have hfin := owns_base S6.out.ow (B' := w.heap.size) (by have := S6.out.ord; omega)
        rw [HFin.out] at hfin
        exact hfin
    · have hA : (fA x.op && decide (0 ≤ x.a)) = false := by simpa using hA
      have HCc := Lib.hid (contains_is (r := false) (by rw [HA.out, hA]) (HUi4.out) (cap := uc) (by have := HUl.out; omega))
      have HOa : Hid (opndA s x = (x.a, [])) := Lib.hid (by unfold opndA; rw [if_neg (by rw [hA]; decide)])
      have S1 := S0
      have c0 := S0.out.c0; have c1 := S0.out.c1; have c2 := S0.out.c2; have c3 := S0.out.c3
      obtain ⟨x0, x1, x2, x3, x4, x5⟩ := S0.out.xs
      simp only [Nat.zero_add] at x1 x2 x3 x4 x5
      go_wp2_with fail
      refine HCc.out.mono ?_; rintro e wx1 ⟨rfl, rfl⟩
      go_upto_region 12 with (fail)
      clear c0 c1 c2 c3 x0 x1 x2 x3 x4 x5
      cases hB : fB x.op
      rotate_left
      · have HRb := Lib.hid (fun u => readsB_is x.op (r := true) hB u)
        have HOb : Hid (opndB s x = readS s x.b (s.k + 1)) := Lib.hid (by unfold opndB; rw [if_pos hB])
        have c0 := S1.out.c0; have c1 := S1.out.c1; have c2 := S1.out.c2; have c3 := S1.out.c3
        obtain ⟨x0, x1, x2, x3, x4, x5⟩ := S1.out.xs
        simp only [Nat.zero_add] at x1 x2 x3 x4 x5
        go_wp2_with fail
        refine (HRb.out _).mono ?_; rintro e wx3 ⟨rfl, rfl⟩
        clear c0 c1 c2 c3 x0 x1 x2 x3 x4 x5
        have c0 := S1.out.c0; have c1 := S1.out.c1; have c2 := S1.out.c2; have c3 := S1.out.c3
        obtain ⟨x0, x1, x2, x3, x4, x5⟩ := S1.out.xs
        simp only [Nat.zero_add] at x1 x2 x3 x4 x5
        have HCB := Lib.hid (HRd.out (.agg #[.map (some a), .map (some b), .map (some c), .int .i64 (s.k : Int)]) x.b (s.k + 1) w4 S1.out.so HKb.out)
        obtain ⟨gB, hgB⟩ : ∃ y, readS s x.b (s.k + 1) = y := ⟨_, rfl⟩
        have HGlB : Hid (gB.2.length ≤ 1) := Lib.hid (by rw [← hgB]; exact readS_len _ _ _)
        rw [hgB] at HCB
        have HGB := Lib.hid hgB
        clear hgB
        go_wp2_with fail
        refine HCB.out.mono ?_; rintro e wrB ⟨⟨aaB, capB, rfl, hinB, hnewB⟩, hbB⟩
        have HRB := Lib.hid (S1.out.below hbB)
        have HInB := Lib.hid hinB; have HNwB := Lib.hid (fun b off e => Nat.ne_of_gt (Nat.lt_of_lt_of_le S1.out.qlt (hnewB b off e)))
        have HNvB := Lib.hid (fun b off e g hg => Nat.ne_of_gt (Nat.lt_of_lt_of_le (owns_block S1.out.ow (g := g) hg).2 (hnewB b off e)))
        clear hinB hnewB hbB
        clear c0 c1 c2 c3 x0 x1 x2 x3 x4 x5
        have ycB := HRB.out.ycell 3
        have yfB := HRB.out.yfree 3
        change wrB.cell? ⟨q, 3, none⟩ = some _ at ycB
        have HTB := Lib.hid (HRB.out.set (y' := ⟨x.op, x.d, x.a, gB.1, x.im, x.to⟩) 3 (.int .i64 gB.1) rfl)
        have HItB := Lib.hid (HInB.out.save (Save.set q 3 wrB (.int .i64 gB.1)) HNwB.out)
        have HSmB : Hid (([] : List Cd).length + gB.2.length ≤ 1000000) := Lib.hid (by have := HGlB.out; simp; omega)
        go_upto_region 16 with (at_builtin; refine wpList_append_codes _ rfl _ _ rfl (q + 1) _ _ rfl HTB.out.ow aaB _ (gB.2) rfl HItB.out HSmB.out (Nat.succ_le_of_lt HTB.out.qlt) ?_; intro voB wzB hoB hgrB; have S2 := Lib.hid (HTB.out.app hgrB hoB); clear hoB hgrB)
        clear ycB yfB
        have HOd : Hid (opndD s x = (x.d, [])) := Lib.hid (by unfold opndD; rw [if_neg (by rw [HFd.out]; decide)])
        go_upto_region 18 with (fail)
        have S3 := S2
        obtain ⟨y0, y1, y2, y3, y4, y5⟩ := S3.out.ys
        simp only [Nat.zero_add] at y0 y1 y2 y3 y4 y5
        have hbal : Below wzB.heap.size wzB (wzB.alloc (.cells (cellsD ⟨x.op, x.d, x.a, gB.1, x.im, x.to⟩) 68)) := (Below.refl _ _).alloc (Nat.le_refl _) _
        have S4 := Lib.hid (S3.out.below hbal)
        have HIy : Hid (CdsIn (wzB.alloc (.cells (cellsD ⟨x.op, x.d, x.a, gB.1, x.im, x.to⟩) 68)) (some ⟨wzB.heap.size, 0, none⟩) [⟨x.op, x.d, x.a, gB.1, x.im, x.to⟩]) := Lib.hid (cds_one _ _)
        have HItE : Hid (CdsIn (wzB.alloc (.cells (cellsD ⟨x.op, x.d, x.a, gB.1, x.im, x.to⟩) 68)) none ([])) := Lib.hid (CdsIn.nil _ _)
        have HSmE : Hid (([] ++ gB.2 : List Cd).length + [(⟨x.op, x.d, x.a, gB.1, x.im, x.to⟩ : Cd)].length ≤ 1000000) := Lib.hid (by have := HGlB.out; simp; try omega)
        have HSmF : Hid (([] ++ gB.2 ++ [(⟨x.op, x.d, x.a, gB.1, x.im, x.to⟩ : Cd)]).length + ([] : List Cd).length ≤ 1000000) := Lib.hid (by have := HGlB.out; simp; try omega)
        have HFin : Hid (([] ++ gB.2 ++ [(⟨x.op, x.d, x.a, gB.1, x.im, x.to⟩ : Cd)]) ++ [] = Lc) := Lib.hid (by rw [← HL.out, HKeep.out]; unfold mainS; rw [HOa.out, HOb.out, HOd.out]; rw [HGB.out]; simp)
        unfold cellsD at S4 HIy HItE
        clear hbal
        have HLe4 := Lib.hid (Nat.succ_le_of_lt S4.out.qlt)
        go_wp2_with (first | (at_builtin; refine wpList_append_codes _ rfl _ _ rfl (q + 1) _ _ rfl S4.out.ow _ 1 [⟨x.op, x.d, x.a, gB.1, x.im, x.to⟩] rfl HIy.out HSmE.out HLe4.out ?_; intro voE wzE hoE hgrE; have S5 := Lib.hid (S4.out.app hgrE hoE); have HItF := Lib.hid (HItE.out.grown hgrE (fun _ _ e => by cases e)); clear hoE hgrE) | (at_builtin; refine wpList_append_codes _ rfl _ _ rfl (q + 1) _ _ rfl S5.out.ow none _ ([]) rfl HItF.out HSmF.out (Nat.succ_le_of_lt S5.out.qlt) ?_; intro voF wzF hoF hgrF; have S6 := Lib.hid (S5.out.app hgrF hoF); clear hoF hgrF))
        go_ret
        refine ⟨⟨_, rfl, ?_⟩, S6.out.low⟩
        have hfin := owns_base S6.out.ow (B' := w.heap.size) (by have := S6.out.ord; omega)
        rw [HFin.out] at hfin
        exact hfin
      · have HRb := Lib.hid (fun u => readsB_is x.op (r := false) hB u)
        have HOb : Hid (opndB s x = (x.b, [])) := Lib.hid (by unfold opndB; rw [if_neg (by rw [hB]; decide)])
        have S2 := S1
        have c0 := S1.out.c0; have c1 := S1.out.c1; have c2 := S1.out.c2; have c3 := S1.out.c3
        obtain ⟨x0, x1, x2, x3, x4, x5⟩ := S1.out.xs
        simp only [Nat.zero_add] at x1 x2 x3 x4 x5
        go_wp2_with fail
        refine (HRb.out _).mono ?_; rintro e wx3 ⟨rfl, rfl⟩
        go_upto_region 16 with (fail)
        clear c0 c1 c2 c3 x0 x1 x2 x3 x4 x5
        have HOd : Hid (opndD s x = (x.d, [])) := Lib.hid (by unfold opndD; rw [if_neg (by rw [HFd.out]; decide)])
        go_upto_region 18 with (fail)
        have S3 := S2
        obtain ⟨y0, y1, y2, y3, y4, y5⟩ := S3.out.ys
        simp only [Nat.zero_add] at y0 y1 y2 y3 y4 y5
        have hbal : Below w4.heap.size w4 (w4.alloc (.cells (cellsD ⟨x.op, x.d, x.a, x.b, x.im, x.to⟩) 68)) := (Below.refl _ _).alloc (Nat.le_refl _) _
        have S4 := Lib.hid (S3.out.below hbal)
        have HIy : Hid (CdsIn (w4.alloc (.cells (cellsD ⟨x.op, x.d, x.a, x.b, x.im, x.to⟩) 68)) (some ⟨w4.heap.size, 0, none⟩) [⟨x.op, x.d, x.a, x.b, x.im, x.to⟩]) := Lib.hid (cds_one _ _)
        have HItE : Hid (CdsIn (w4.alloc (.cells (cellsD ⟨x.op, x.d, x.a, x.b, x.im, x.to⟩) 68)) none ([])) := Lib.hid (CdsIn.nil _ _)
        have HSmE : Hid (([] : List Cd).length + [(⟨x.op, x.d, x.a, x.b, x.im, x.to⟩ : Cd)].length ≤ 1000000) := Lib.hid (by skip; simp; try omega)
        have HSmF : Hid (([] ++ [(⟨x.op, x.d, x.a, x.b, x.im, x.to⟩ : Cd)]).length + ([] : List Cd).length ≤ 1000000) := Lib.hid (by skip; simp; try omega)
        have HFin : Hid (([] ++ [(⟨x.op, x.d, x.a, x.b, x.im, x.to⟩ : Cd)]) ++ [] = Lc) := Lib.hid (by rw [← HL.out, HKeep.out]; unfold mainS; rw [HOa.out, HOb.out, HOd.out]; simp)
        unfold cellsD at S4 HIy HItE
        clear hbal
        have HLe4 := Lib.hid (Nat.succ_le_of_lt S4.out.qlt)
        go_wp2_with (first | (at_builtin; refine wpList_append_codes _ rfl _ _ rfl (q + 1) _ _ rfl S4.out.ow _ 1 [⟨x.op, x.d, x.a, x.b, x.im, x.to⟩] rfl HIy.out HSmE.out HLe4.out ?_; intro voE wzE hoE hgrE; have S5 := Lib.hid (S4.out.app hgrE hoE); have HItF := Lib.hid (HItE.out.grown hgrE (fun _ _ e => by cases e)); clear hoE hgrE) | (at_builtin; refine wpList_append_codes _ rfl _ _ rfl (q + 1) _ _ rfl S5.out.ow none _ ([]) rfl HItF.out HSmF.out (Nat.succ_le_of_lt S5.out.qlt) ?_; intro voF wzF hoF hgrF; have S6 := Lib.hid (S5.out.app hgrF hoF); clear hoF hgrF))
        go_ret
        refine ⟨⟨_, rfl, ?_⟩, S6.out.low⟩
        have hfin := owns_base S6.out.ow (B' := w.heap.size) (by have := S6.out.ord; omega)
        rw [HFin.out] at hfin
        exact hfin
  · obtain rfl : on = none := by simpa using hcond
    clear hcond
    have S0 := Lib.hid (CSt.start HS3.out HC03.out HC13.out HC23.out HC33.out HX3.out HB3.out ⟨rfl, by have := HSz3.out; omega, hlt⟩)
    have HUi4 := Lib.hid (HUi3.out.below ((Below.refl w3.heap.size w3).alloc (Nat.le_refl _) (.cells #[.int .i64 x.op, .int .i64 x.d, .int .i64 x.a, .int .i64 x.b, .int .u32 x.im, .int .i64 x.to] 68)))
    obtain ⟨x0, x1, x2, x3, x4, x5⟩ := HX3.out
    simp only [Nat.zero_add] at x1 x2 x3 x4 x5
    go_upto_region 8 with (at_lookup; refine wpList_getok_mapU _ rfl _ _ 57 rfl Try.underlying57 c s.num HM3.out rfl x.d HKd.out rfl HN.out ?_)
    clear c2 x0 x1 x2 x3 x4 x5
    generalize w3.alloc (.cells #[.int .i64 x.op, .int .i64 x.d, .int .i64 x.a, .int .i64 x.b, .int .u32 x.im, .int .i64 x.to] 68) = w4 at *
    generalize w3.heap.size = q at *
    by_cases hA : (fA x.op && decide (0 ≤ x.a)) = true
    · have HCc := Lib.hid (contains_is (r := true) (by rw [HA.out, hA]) (HUi4.out) (cap := uc) (by have := HUl.out; omega))
      have HRa := Lib.hid (fun u => readsA_is x.op (r := true) (by rw [Bool.and_eq_true] at hA; exact hA.1) u)
      have ha0 : 0 ≤ x.a := by rw [Bool.and_eq_true] at hA; exact of_decide_eq_true hA.2
      have HOa : Hid (opndA s x = readS s x.a s.k) := Lib.hid (by unfold opndA; rw [if_pos hA])
      have c0 := S0.out.c0; have c1 := S0.out.c1; have c2 := S0.out.c2; have c3 := S0.out.c3
      obtain ⟨x0, x1, x2, x3, x4, x5⟩ := S0.out.xs
      simp only [Nat.zero_add] at x1 x2 x3 x4 x5
      go_wp2_with fail
      refine HCc.out.mono ?_; rintro e wx1 ⟨rfl, rfl⟩
      go_wp2_with fail
      refine (HRa.out _).mono ?_; rintro e wx2 ⟨rfl, rfl⟩
      clear c0 c1 c2 c3 x0 x1 x2 x3 x4 x5
      have c0 := S0.out.c0; have c1 := S0.out.c1; have c2 := S0.out.c2; have c3 := S0.out.c3
      obtain ⟨x0, x1, x2, x3, x4, x5⟩ := S0.out.xs
      simp only [Nat.zero_add] at x1 x2 x3 x4 x5
      have HCA := Lib.hid (HRd.out (.agg #[.map (some a), .map (some b), .map (some c), .int .i64 (s.k : Int)]) x.a s.k w4 S0.out.so (HKa.out ha0))
      obtain ⟨gA, hgA⟩ : ∃ y, readS s x.a s.k = y := ⟨_, rfl⟩
      have HGlA : Hid (gA.2.length ≤ 1) := Lib.hid (by rw [← hgA]; exact readS_len _ _ _)
      rw [hgA] at HCA
      have HGA := Lib.hid hgA
      clear hgA
      go_wp2_with fail
      refine HCA.out.mono ?_; rintro e wrA ⟨⟨aaA, capA, rfl, hinA, hnewA⟩, hbA⟩
      have HRA := Lib.hid (S0.out.below hbA)
      have HInA := Lib.hid hinA; have HNwA := Lib.hid (fun b off e => Nat.ne_of_gt (Nat.lt_of_lt_of_le S0.out.qlt (hnewA b off e)))
      have HNvA := Lib.hid (fun b off e g hg => Nat.ne_of_gt (Nat.lt_of_lt_of_le (owns_block S0.out.ow (g := g) hg).2 (hnewA b off e)))
      clear hinA hnewA hbA
      clear c0 c1 c2 c3 x0 x1 x2 x3 x4 x5
      have ycA := HRA.out.ycell 2
      have yfA := HRA.out.yfree 2
      change wrA.cell? ⟨q, 2, none⟩ = some _ at ycA
      have HTA := Lib.hid (HRA.out.set (y' := ⟨x.op, x.d, gA.1, x.b, x.im, x.to⟩) 2 (.int .i64 gA.1) rfl)
      have HItA := Lib.hid (HInA.out.save (Save.set q 2 wrA (.int .i64 gA.1)) HNwA.out)
      have HSmA : Hid (([] : List Cd).length + gA.2.length ≤ 1000000) := Lib.hid (by have := HGlA.out; simp; omega)
      go_upto_region 12 with (at_builtin; refine wpList_append_codes _ rfl _ _ rfl (q + 1) _ _ rfl HTA.out.ow aaA _ (gA.2) rfl HItA.out HSmA.out (Nat.succ_le_of_lt HTA.out.qlt) ?_; intro voA wzA hoA hgrA; have S1 := Lib.hid (HTA.out.app hgrA hoA); clear hoA hgrA)
      clear ycA yfA
      cases hB : fB x.op
      rotate_left
      · have HRb := Lib.hid (fun u => readsB_is x.op (r := true) hB u)
        have HOb : Hid (opndB s x = readS s x.b (s.k + 1)) := Lib.hid (by unfold opndB; rw [if_pos hB])
        have c0 := S1.out.c0; have c1 := S1.out.c1; have c2 := S1.out.c2; have c3 := S1.out.c3
        obtain ⟨x0, x1, x2, x3, x4, x5⟩ := S1.out.xs
        simp only [Nat.zero_add] at x1 x2 x3 x4 x5
        go_wp2_with fail
        refine (HRb.out _).mono ?_; rintro e wx3 ⟨rfl, rfl⟩
        clear c0 c1 c2 c3 x0 x1 x2 x3 x4 x5
        have c0 := S1.out.c0; have c1 := S1.out.c1; have c2 := S1.out.c2; have c3 := S1.out.c3
        obtain ⟨x0, x1, x2, x3, x4, x5⟩ := S1.out.xs
        simp only [Nat.zero_add] at x1 x2 x3 x4 x5
        have HCB := Lib.hid (HRd.out (.agg #[.map (some a), .map (some b), .map (some c), .int .i64 (s.k : Int)]) x.b (s.k + 1) wzA S1.out.so HKb.out)
        obtain ⟨gB, hgB⟩ : ∃ y, readS s x.b (s.k + 1) = y := ⟨_, rfl⟩
        have HGlB : Hid (gB.2.length ≤ 1) := Lib.hid (by rw [← hgB]; exact readS_len _ _ _)
        rw [hgB] at HCB
        have HGB := Lib.hid hgB
        clear hgB
        go_wp2_with fail
        refine HCB.out.mono ?_; rintro e wrB ⟨⟨aaB, capB, rfl, hinB, hnewB⟩, hbB⟩
        have HRB := Lib.hid (S1.out.below hbB)
        have HInB := Lib.hid hinB; have HNwB := Lib.hid (fun b off e => Nat.ne_of_gt (Nat.lt_of_lt_of_le S1.out.qlt (hnewB b off e)))
        have HNvB := Lib.hid (fun b off e g hg => Nat.ne_of_gt (Nat.lt_of_lt_of_le (owns_block S1.out.ow (g := g) hg).2 (hnewB b off e)))
        clear hinB hnewB hbB
        clear c0 c1 c2 c3 x0 x1 x2 x3 x4 x5
        have ycB := HRB.out.ycell 3
        have yfB := HRB.out.yfree 3
        change wrB.cell? ⟨q, 3, none⟩ = some _ at ycB
        have HTB := Lib.hid (HRB.out.set (y' := ⟨x.op, x.d, gA.1, gB.1, x.im, x.to⟩) 3 (.int .i64 gB.1) rfl)
        have HItB := Lib.hid (HInB.out.save (Save.set q 3 wrB (.int .i64 gB.1)) HNwB.out)
        have HSmB : Hid (([] ++ gA.2 : List Cd).length + gB.2.length ≤ 1000000) := Lib.hid (by have := HGlB.out; have := HGlA.out; simp; omega)
        go_upto_region 16 with (at_builtin; refine wpList_append_codes _ rfl _ _ rfl (q + 1) _ _ rfl HTB.out.ow aaB _ (gB.2) rfl HItB.out HSmB.out (Nat.succ_le_of_lt HTB.out.qlt) ?_; intro voB wzB hoB hgrB; have S2 := Lib.hid (HTB.out.app hgrB hoB); clear hoB hgrB)
        clear ycB yfB
        have HOd : Hid (opndD s x = writeS s x.d) := Lib.hid (by unfold opndD; rw [if_pos HFd.out])
        have c0 := S2.out.c0; have c1 := S2.out.c1; have c2 := S2.out.c2; have c3 := S2.out.c3
        obtain ⟨x0, x1, x2, x3, x4, x5⟩ := S2.out.xs
        simp only [Nat.zero_add] at x1 x2 x3 x4 x5
        have HCD := Lib.hid (HWr.out (.agg #[.map (some a), .map (some b), .map (some c), .int .i64 (s.k : Int)]) x.d wzB S2.out.so HKd.out)
        obtain ⟨gD, hgD⟩ : ∃ y, writeS s x.d = y := ⟨_, rfl⟩
        have HGlD : Hid (gD.2.length ≤ 1) := Lib.hid (by rw [← hgD]; exact writeS_len _ _)
        rw [hgD] at HCD
        have HGD := Lib.hid hgD
        clear hgD
        go_wp2_with fail
        refine HCD.out.mono ?_; rintro e wrD ⟨⟨aaD, capD, rfl, hinD, hnewD⟩, hbD⟩
        have HRD := Lib.hid (S2.out.below hbD)
        have HInD := Lib.hid hinD; have HNwD := Lib.hid (fun b off e => Nat.ne_of_gt (Nat.lt_of_lt_of_le S2.out.qlt (hnewD b off e)))
        have HNvD := Lib.hid (fun b off e g hg => Nat.ne_of_gt (Nat.lt_of_lt_of_le (owns_block S2.out.ow (g := g) hg).2 (hnewD b off e)))
        clear hinD hnewD hbD
        clear c0 c1 c2 c3 x0 x1 x2 x3 x4 x5
        have ycD := HRD.out.ycell 1
        have yfD := HRD.out.yfree 1
        change wrD.cell? ⟨q, 1, none⟩ = some _ at ycD
        have HTD := Lib.hid (HRD.out.set (y' := ⟨x.op, gD.1, gA.1, gB.1, x.im, x.to⟩) 1 (.int .i64 gD.1) rfl)
        have HItD := Lib.hid (HInD.out.save (Save.set q 1 wrD (.int .i64 gD.1)) HNwD.out)
        go_upto_region 18 with (fail)
        clear ycD yfD
        have S3 := HTD
        generalize wrD.setCell ⟨q, 1, none⟩ (.int .i64 gD.1) = w5 at *
        obtain ⟨y0, y1, y2, y3, y4, y5⟩ := S3.out.ys
        simp only [Nat.zero_add] at y0 y1 y2 y3 y4 y5
        have hbal : Below w5.heap.size w5 (w5.alloc (.cells (cellsD ⟨x.op, gD.1, gA.1, gB.1, x.im, x.to⟩) 68)) := (Below.refl _ _).alloc (Nat.le_refl _) _
        have S4 := Lib.hid (S3.out.below hbal)
        have HIy : Hid (CdsIn (w5.alloc (.cells (cellsD ⟨x.op, gD.1, gA.1, gB.1, x.im, x.to⟩) 68)) (some ⟨w5.heap.size, 0, none⟩) [⟨x.op, gD.1, gA.1, gB.1, x.im, x.to⟩]) := Lib.hid (cds_one _ _)
        have HItE : Hid (CdsIn (w5.alloc (.cells (cellsD ⟨x.op, gD.1, gA.1, gB.1, x.im, x.to⟩) 68)) aaD (gD.2)) := Lib.hid (HItD.out.below hbal)
        have HSmE : Hid (([] ++ gA.2 ++ gB.2 : List Cd).length + [(⟨x.op, gD.1, gA.1, gB.1, x.im, x.to⟩ : Cd)].length ≤ 1000000) := Lib.hid (by have := HGlA.out; have := HGlB.out; have := HGlD.out; simp; try omega)
        have HSmF : Hid (([] ++ gA.2 ++ gB.2 ++ [(⟨x.op, gD.1, gA.1, gB.1, x.im, x.to⟩ : Cd)]).length + (gD.2 : List Cd).length ≤ 1000000) := Lib.hid (by have := HGlA.out; have := HGlB.out; have := HGlD.out; simp; try omega)
        have HFin : Hid (([] ++ gA.2 ++ gB.2 ++ [(⟨x.op, gD.1, gA.1, gB.1, x.im, x.to⟩ : Cd)]) ++ gD.2 = Lc) := Lib.hid (by rw [← HL.out, HKeep.out]; unfold mainS; rw [HOa.out, HOb.out, HOd.out]; rw [HGA.out]; rw [HGB.out]; rw [HGD.out]; simp)
        unfold cellsD at S4 HIy HItE
        clear hbal
        have HLe4 := Lib.hid (Nat.succ_le_of_lt S4.out.qlt)
        go_wp2_with (first | (at_builtin; refine wpList_append_codes _ rfl _ _ rfl (q + 1) _ _ rfl S4.out.ow _ 1 [⟨x.op, gD.1, gA.1, gB.1, x.im, x.to⟩] rfl HIy.out HSmE.out HLe4.out ?_; intro voE wzE hoE hgrE; have S5 := Lib.hid (S4.out.app hgrE hoE); have HItF := Lib.hid (HItE.out.grown hgrE HNvD.out); clear hoE hgrE) | (at_builtin; refine wpList_append_codes _ rfl _ _ rfl (q + 1) _ _ rfl S5.out.ow aaD _ (gD.2) rfl HItF.out HSmF.out (Nat.succ_le_of_lt S5.out.qlt) ?_; intro voF wzF hoF hgrF; have S6 := Lib.hid (S5.out.app hgrF hoF); clear hoF hgrF))
        go_ret
        refine ⟨⟨_, rfl, ?_⟩, S6.out.low⟩
        have hfin := owns_base S6.out.ow (B' := w.heap.size) (by have := S6.out.ord; omega)
        rw [HFin.out] at hfin
        exact hfin
      · have HRb := Lib.hid (fun u => readsB_is x.op (r := false) hB u)
        have HOb : Hid (opndB s x = (x.b, [])) := Lib.hid (by unfold opndB; rw [if_neg (by rw [hB]; decide)])
        have S2 := S1
        have c0 := S1.out.c0; have c1 := S1.out.c1; have c2 := S1.out.c2; have c3 := S1.out.c3
        obtain ⟨x0, x1, x2, x3, x4, x5⟩ := S1.out.xs
        simp only [Nat.zero_add] at x1 x2 x3 x4 x5
        go_wp2_with fail
        refine (HRb.out _).mono ?_; rintro e wx3 ⟨rfl, rfl⟩
        go_upto_region 16 with (fail)
        clear c0 c1 c2 c3 x0 x1 x2 x3 x4 x5
        have HOd : Hid (opndD s x = writeS s x.d) := Lib.hid (by unfold opndD; rw [if_pos HFd.out])
        have c0 := S2.out.c0; have c1 := S2.out.c1; have c2 := S2.out.c2; have c3 := S2.out.c3
        obtain ⟨x0, x1, x2, x3, x4, x5⟩ := S2.out.xs
        simp only [Nat.zero_add] at x1 x2 x3 x4 x5
        have HCD := Lib.hid (HWr.out (.agg #[.map (some a), .map (some b), .map (some c), .int .i64 (s.k : Int)]) x.d wzA S2.out.so HKd.out)
        obtain ⟨gD, hgD⟩ : ∃ y, writeS s x.d = y := ⟨_, rfl⟩
        have HGlD : Hid (gD.2.length ≤ 1) := Lib.hid (by rw [← hgD]; exact writeS_len _ _)
        rw [hgD] at HCD
        have HGD := Lib.hid hgD
        clear hgD
        go_wp2_with fail
        refine HCD.out.mono ?_; rintro e wrD ⟨⟨aaD, capD, rfl, hinD, hnewD⟩, hbD⟩
        have HRD := Lib.hid (S2.out.below hbD)
        have HInD := Lib.hid hinD; have HNwD := Lib.hid (fun b off e => Nat.ne_of_gt (Nat.lt_of_lt_of_le S2.out.qlt (hnewD b off e)))
        have HNvD := Lib.hid (fun b off e g hg => Nat.ne_of_gt (Nat.lt_of_lt_of_le (owns_block S2.out.ow (g := g) hg).2 (hnewD b off e)))
        clear hinD hnewD hbD
        clear c0 c1 c2 c3 x0 x1 x2 x3 x4 x5
        have ycD := HRD.out.ycell 1
        have yfD := HRD.out.yfree 1
        change wrD.cell? ⟨q, 1, none⟩ = some _ at ycD
        have HTD := Lib.hid (HRD.out.set (y' := ⟨x.op, gD.1, gA.1, x.b, x.im, x.to⟩) 1 (.int .i64 gD.1) rfl)
        have HItD := Lib.hid (HInD.out.save (Save.set q 1 wrD (.int .i64 gD.1)) HNwD.out)
        go_upto_region 18 with (fail)
        clear ycD yfD
        have S3 := HTD
        generalize wrD.setCell ⟨q, 1, none⟩ (.int .i64 gD.1) = w5 at *
        obtain ⟨y0, y1, y2, y3, y4, y5⟩ := S3.out.ys
        simp only [Nat.zero_add] at y0 y1 y2 y3 y4 y5
        have hbal : Below w5.heap.size w5 (w5.alloc (.cells (cellsD ⟨x.op, gD.1, gA.1, x.b, x.im, x.to⟩) 68)) := (Below.refl _ _).alloc (Nat.le_refl _) _
        have S4 := Lib.hid (S3.out.below hbal)
        have HIy : Hid (CdsIn (w5.alloc (.cells (cellsD ⟨x.op, gD.1, gA.1, x.b, x.im, x.to⟩) 68)) (some ⟨w5.heap.size, 0, none⟩) [⟨x.op, gD.1, gA.1, x.b, x.im, x.to⟩]) := Lib.hid (cds_one _ _)
        have HItE : Hid (CdsIn (w5.alloc (.cells (cellsD ⟨x.op, gD.1, gA.1, x.b, x.im, x.to⟩) 68)) aaD (gD.2)) := Lib.hid (HItD.out.below hbal)
        have HSmE : Hid (([] ++ gA.2 : List Cd).length + [(⟨x.op, gD.1, gA.1, x.b, x.im, x.to⟩ : Cd)].length ≤ 1000000) := Lib.hid (by have := HGlA.out; have := HGlD.out; simp; try omega)
        have HSmF : Hid (([] ++ gA.2 ++ [(⟨x.op, gD.1, gA.1, x.b, x.im, x.to⟩ : Cd)]).length + (gD.2 : List Cd).length ≤ 1000000) := Lib.hid (by have := HGlA.out; have := HGlD.out; simp; try omega)
        have HFin : Hid (([] ++ gA.2 ++ [(⟨x.op, gD.1, gA.1, x.b, x.im, x.to⟩ : Cd)]) ++ gD.2 = Lc) := Lib.hid (by rw [← HL.out, HKeep.out]; unfold mainS; rw [HOa.out, HOb.out, HOd.out]; rw [HGA.out]; rw [HGD.out]; simp)
        unfold cellsD at S4 HIy HItE
        clear hbal
        have HLe4 := Lib.hid (Nat.succ_le_of_lt S4.out.qlt)
        go_wp2_with (first | (at_builtin; refine wpList_append_codes _ rfl _ _ rfl (q + 1) _ _ rfl S4.out.ow _ 1 [⟨x.op, gD.1, gA.1, x.b, x.im, x.to⟩] rfl HIy.out HSmE.out HLe4.out ?_; intro voE wzE hoE hgrE; have S5 := Lib.hid (S4.out.app hgrE hoE); have HItF := Lib.hid (HItE.out.grown hgrE HNvD.out); clear hoE hgrE) | (at_builtin; refine wpList_append_codes _ rfl _ _ rfl (q + 1) _ _ rfl S5.out.ow aaD _ (gD.2) rfl HItF.out HSmF.out (Nat.succ_le_of_lt S5.out.qlt) ?_; intro voF wzF hoF hgrF; have S6 := Lib.hid (S5.out.app hgrF hoF); clear hoF hgrF))
        go_ret
        refine ⟨⟨_, rfl, ?_⟩, S6.out.low⟩
        have hfin := owns_base S6.out.ow (B' := w.heap.size) (by have := S6.out.ord; omega)
        rw [HFin.out] at hfin
        exact hfin
    · have hA : (fA x.op && decide (0 ≤ x.a)) = false := by simpa using hA
      have HCc := Lib.hid (contains_is (r := false) (by rw [HA.out, hA]) (HUi4.out) (cap := uc) (by have := HUl.out; omega))
      have HOa : Hid (opndA s x = (x.a, [])) := Lib.hid (by unfold opndA; rw [if_neg (by rw [hA]; decide)])
      have S1 := S0
      have c0 := S0.out.c0; have c1 := S0.out.c1; have c2 := S0.out.c2; have c3 := S0.out.c3
      obtain ⟨x0, x1, x2, x3, x4, x5⟩ := S0.out.xs
      simp only [Nat.zero_add] at x1 x2 x3 x4 x5
      go_wp2_with fail
      refine HCc.out.mono ?_; rintro e wx1 ⟨rfl, rfl⟩
      go_upto_region 12 with (fail)
      clear c0 c1 c2 c3 x0 x1 x2 x3 x4 x5
      cases hB : fB x.op
      rotate_left
      · have HRb := Lib.hid (fun u => readsB_is x.op (r := true) hB u)
        have HOb : Hid (opndB s x = readS s x.b (s.k + 1)) := Lib.hid (by unfold opndB; rw [if_pos hB])
        have c0 := S1.out.c0; have c1 := S1.out.c1; have c2 := S1.out.c2; have c3 := S1.out.c3
        obtain ⟨x0, x1, x2, x3, x4, x5⟩ := S1.out.xs
        simp only [Nat.zero_add] at x1 x2 x3 x4 x5
        go_wp2_with fail
        refine (HRb.out _).mono ?_; rintro e wx3 ⟨rfl, rfl⟩
        clear c0 c1 c2 c3 x0 x1 x2 x3 x4 x5
        have c0 := S1.out.c0; have c1 := S1.out.c1; have c2 := S1.out.c2; have c3 := S1.out.c3
        obtain ⟨x0, x1, x2, x3, x4, x5⟩ := S1.out.xs
        simp only [Nat.zero_add] at x1 x2 x3 x4 x5
        have HCB := Lib.hid (HRd.out (.agg #[.map (some a), .map (some b), .map (some c), .int .i64 (s.k : Int)]) x.b (s.k + 1) w4 S1.out.so HKb.out)
        obtain ⟨gB, hgB⟩ : ∃ y, readS s x.b (s.k + 1) = y := ⟨_, rfl⟩
        have HGlB : Hid (gB.2.length ≤ 1) := Lib.hid (by rw [← hgB]; exact readS_len _ _ _)
        rw [hgB] at HCB
        have HGB := Lib.hid hgB
        clear hgB
        go_wp2_with fail
        refine HCB.out.mono ?_; rintro e wrB ⟨⟨aaB, capB, rfl, hinB, hnewB⟩, hbB⟩
        have HRB := Lib.hid (S1.out.below hbB)
        have HInB := Lib.hid hinB; have HNwB := Lib.hid (fun b off e => Nat.ne_of_gt (Nat.lt_of_lt_of_le S1.out.qlt (hnewB b off e)))
        have HNvB := Lib.hid (fun b off e g hg => Nat.ne_of_gt (Nat.lt_of_lt_of_le (owns_block S1.out.ow (g := g) hg).2 (hnewB b off e)))
        clear hinB hnewB hbB
        clear c0 c1 c2 c3 x0 x1 x2 x3 x4 x5
        have ycB := HRB.out.ycell 3
        have yfB := HRB.out.yfree 3
        change wrB.cell? ⟨q, 3, none⟩ = some _ at ycB
        have HTB := Lib.hid (HRB.out.set (y' := ⟨x.op, x.d, x.a, gB.1, x.im, x.to⟩) 3 (.int .i64 gB.1) rfl)
        have HItB := Lib.hid (HInB.out.save (Save.set q 3 wrB (.int .i64 gB.1)) HNwB.out)
        have HSmB : Hid (([] : List Cd).length + gB.2.length ≤ 1000000) := Lib.hid (by have := HGlB.out; simp; omega)
        go_upto_region 16 with (at_builtin; refine wpList_append_codes _ rfl _ _ rfl (q + 1) _ _ rfl HTB.out.ow aaB _ (gB.2) rfl HItB.out HSmB.out (Nat.succ_le_of_lt HTB.out.qlt) ?_; intro voB wzB hoB hgrB; have S2 := Lib.hid (HTB.out.app hgrB hoB); clear hoB hgrB)
        clear ycB yfB
        have HOd : Hid (opndD s x = writeS s x.d) := Lib.hid (by unfold opndD; rw [if_pos HFd.out])
        have c0 := S2.out.c0; have c1 := S2.out.c1; have c2 := S2.out.c2; have c3 := S2.out.c3
        obtain ⟨x0, x1, x2, x3, x4, x5⟩ := S2.out.xs
        simp only [Nat.zero_add] at x1 x2 x3 x4 x5
        have HCD := Lib.hid (HWr.out (.agg #[.map (some a), .map (some b), .map (some c), .int .i64 (s.k : Int)]) x.d wzB S2.out.so HKd.out)
        obtain ⟨gD, hgD⟩ : ∃ y, writeS s x.d = y := ⟨_, rfl⟩
        have HGlD : Hid (gD.2.length ≤ 1) := Lib.hid (by rw [← hgD]; exact writeS_len _ _)
        rw [hgD] at HCD
        have HGD := Lib.hid hgD
        clear hgD
        go_wp2_with fail
        refine HCD.out.mono ?_; rintro e wrD ⟨⟨aaD, capD, rfl, hinD, hnewD⟩, hbD⟩
        have HRD := Lib.hid (S2.out.below hbD)
        have HInD := Lib.hid hinD; have HNwD := Lib.hid (fun b off e => Nat.ne_of_gt (Nat.lt_of_lt_of_le S2.out.qlt (hnewD b off e)))
        have HNvD := Lib.hid (fun b off e g hg => Nat.ne_of_gt (Nat.lt_of_lt_of_le (owns_block S2.out.ow (g := g) hg).2 (hnewD b off e)))
        clear hinD hnewD hbD
        clear c0 c1 c2 c3 x0 x1 x2 x3 x4 x5
        have ycD := HRD.out.ycell 1
        have yfD := HRD.out.yfree 1
        change wrD.cell? ⟨q, 1, none⟩ = some _ at ycD
        have HTD := Lib.hid (HRD.out.set (y' := ⟨x.op, gD.1, x.a, gB.1, x.im, x.to⟩) 1 (.int .i64 gD.1) rfl)
        have HItD := Lib.hid (HInD.out.save (Save.set q 1 wrD (.int .i64 gD.1)) HNwD.out)
        go_upto_region 18 with (fail)
        clear ycD yfD
        have S3 := HTD
        generalize wrD.setCell ⟨q, 1, none⟩ (.int .i64 gD.1) = w5 at *
        obtain ⟨y0, y1, y2, y3, y4, y5⟩ := S3.out.ys
        simp only [Nat.zero_add] at y0 y1 y2 y3 y4 y5
        have hbal : Below w5.heap.size w5 (w5.alloc (.cells (cellsD ⟨x.op, gD.1, x.a, gB.1, x.im, x.to⟩) 68)) := (Below.refl _ _).alloc (Nat.le_refl _) _
        have S4 := Lib.hid (S3.out.below hbal)
        have HIy : Hid (CdsIn (w5.alloc (.cells (cellsD ⟨x.op, gD.1, x.a, gB.1, x.im, x.to⟩) 68)) (some ⟨w5.heap.size, 0, none⟩) [⟨x.op, gD.1, x.a, gB.1, x.im, x.to⟩]) := Lib.hid (cds_one _ _)
        have HItE : Hid (CdsIn (w5.alloc (.cells (cellsD ⟨x.op, gD.1, x.a, gB.1, x.im, x.to⟩) 68)) aaD (gD.2)) := Lib.hid (HItD.out.below hbal)
        have HSmE : Hid (([] ++ gB.2 : List Cd).length + [(⟨x.op, gD.1, x.a, gB.1, x.im, x.to⟩ : Cd)].length ≤ 1000000) := Lib.hid (by have := HGlB.out; have := HGlD.out; simp; try omega)
        have HSmF : Hid (([] ++ gB.2 ++ [(⟨x.op, gD.1, x.a, gB.1, x.im, x.to⟩ : Cd)]).length + (gD.2 : List Cd).length ≤ 1000000) := Lib.hid (by have := HGlB.out; have := HGlD.out; simp; try omega)
        have HFin : Hid (([] ++ gB.2 ++ [(⟨x.op, gD.1, x.a, gB.1, x.im, x.to⟩ : Cd)]) ++ gD.2 = Lc) := Lib.hid (by rw [← HL.out, HKeep.out]; unfold mainS; rw [HOa.out, HOb.out, HOd.out]; rw [HGB.out]; rw [HGD.out]; simp)
        unfold cellsD at S4 HIy HItE
        clear hbal
        have HLe4 := Lib.hid (Nat.succ_le_of_lt S4.out.qlt)
        go_wp2_with (first | (at_builtin; refine wpList_append_codes _ rfl _ _ rfl (q + 1) _ _ rfl S4.out.ow _ 1 [⟨x.op, gD.1, x.a, gB.1, x.im, x.to⟩] rfl HIy.out HSmE.out HLe4.out ?_; intro voE wzE hoE hgrE; have S5 := Lib.hid (S4.out.app hgrE hoE); have HItF := Lib.hid (HItE.out.grown hgrE HNvD.out); clear hoE hgrE) | (at_builtin; refine wpList_append_codes _ rfl _ _ rfl (q + 1) _ _ rfl S5.out.ow aaD _ (gD.2) rfl HItF.out HSmF.out (Nat.succ_le_of_lt S5.out.qlt) ?_; intro voF wzF hoF hgrF; have S6 := Lib.hid (S5.out.app hgrF hoF); clear hoF hgrF))
        go_ret
        refine ⟨⟨_, rfl, ?_⟩, S6.out.low⟩
        have hfin := owns_base S6.out.ow (B' := w.heap.size) (by have := S6.out.ord; omega)
        rw [HFin.out] at hfin
        exact hfin
      · have HRb := Lib.hid (fun u => readsB_is x.op (r := false) hB u)
        have HOb : Hid (opndB s x = (x.b, [])) := Lib.hid (by unfold opndB; rw [if_neg (by rw [hB]; decide)])
        have S2 := S1
        have c0 := S1.out.c0; have c1 := S1.out.c1; have c2 := S1.out.c2; have c3 := S1.out.c3
        obtain ⟨x0, x1, x2, x3, x4, x5⟩ := S1.out.xs
        simp only [Nat.zero_add] at x1 x2 x3 x4 x5
        go_wp2_with fail
        refine (HRb.out _).mono ?_; rintro e wx3 ⟨rfl, rfl⟩
        go_upto_region 16 with (fail)
        clear c0 c1 c2 c3 x0 x1 x2 x3 x4 x5
        have HOd : Hid (opndD s x = writeS s x.d) := Lib.hid (by unfold opndD; rw [if_pos HFd.out])
        have c0 := S2.out.c0; have c1 := S2.out.c1; have c2 := S2.out.c2; have c3 := S2.out.c3
        obtain ⟨x0, x1, x2, x3, x4, x5⟩ := S2.out.xs
        simp only [Nat.zero_add] at x1 x2 x3 x4 x5
        have HCD := Lib.hid (HWr.out (.agg #[.map (some a), .map (some b), .map (some c), .int .i64 (s.k : Int)]) x.d w4 S2.out.so HKd.out)
        obtain ⟨gD, hgD⟩ : ∃ y, writeS s x.d = y := ⟨_, rfl⟩
        have HGlD : Hid (gD.2.length ≤ 1) := Lib.hid (by rw [← hgD]; exact writeS_len _ _)
        rw [hgD] at HCD
        have HGD := Lib.hid hgD
        clear hgD
        go_wp2_with fail
        refine HCD.out.mono ?_; rintro e wrD ⟨⟨aaD, capD, rfl, hinD, hnewD⟩, hbD⟩
        have HRD := Lib.hid (S2.out.below hbD)
        have HInD := Lib.hid hinD; have HNwD := Lib.hid (fun b off e => Nat.ne_of_gt (Nat.lt_of_lt_of_le S2.out.qlt (hnewD b off e)))
        have HNvD := Lib.hid (fun b off e g hg => Nat.ne_of_gt (Nat.lt_of_lt_of_le (owns_block S2.out.ow (g := g) hg).2 (hnewD b off e)))
        clear hinD hnewD hbD
        clear c0 c1 c2 c3 x0 x1 x2 x3 x4 x5
        have ycD := HRD.out.ycell 1
        have yfD := HRD.out.yfree 1
        change wrD.cell? ⟨q, 1, none⟩ = some _ at ycD
        have HTD := Lib.hid (HRD.out.set (y' := ⟨x.op, gD.1, x.a, x.b, x.im, x.to⟩) 1 (.int .i64 gD.1) rfl)
        have HItD := Lib.hid (HInD.out.save (Save.set q 1 wrD (.int .i64 gD.1)) HNwD.out)
        go_upto_region 18 with (fail)
        clear ycD yfD
        have S3 := HTD
        generalize wrD.setCell ⟨q, 1, none⟩ (.int .i64 gD.1) = w5 at *
        obtain ⟨y0, y1, y2, y3, y4, y5⟩ := S3.out.ys
        simp only [Nat.zero_add] at y0 y1 y2 y3 y4 y5
        have hbal : Below w5.heap.size w5 (w5.alloc (.cells (cellsD ⟨x.op, gD.1, x.a, x.b, x.im, x.to⟩) 68)) := (Below.refl _ _).alloc (Nat.le_refl _) _
        have S4 := Lib.hid (S3.out.below hbal)
        have HIy : Hid (CdsIn (w5.alloc (.cells (cellsD ⟨x.op, gD.1, x.a, x.b, x.im, x.to⟩) 68)) (some ⟨w5.heap.size, 0, none⟩) [⟨x.op, gD.1, x.a, x.b, x.im, x.to⟩]) := Lib.hid (cds_one _ _)
        have HItE : Hid (CdsIn (w5.alloc (.cells (cellsD ⟨x.op, gD.1, x.a, x.b, x.im, x.to⟩) 68)) aaD (gD.2)) := Lib.hid (HItD.out.below hbal)
        have HSmE : Hid (([] : List Cd).length + [(⟨x.op, gD.1, x.a, x.b, x.im, x.to⟩ : Cd)].length ≤ 1000000) := Lib.hid (by have := HGlD.out; simp; try omega)
        have HSmF : Hid (([] ++ [(⟨x.op, gD.1, x.a, x.b, x.im, x.to⟩ : Cd)]).length + (gD.2 : List Cd).length ≤ 1000000) := Lib.hid (by have := HGlD.out; simp; try omega)
        have HFin : Hid (([] ++ [(⟨x.op, gD.1, x.a, x.b, x.im, x.to⟩ : Cd)]) ++ gD.2 = Lc) := Lib.hid (by rw [← HL.out, HKeep.out]; unfold mainS; rw [HOa.out, HOb.out, HOd.out]; rw [HGD.out]; simp)
        unfold cellsD at S4 HIy HItE
        clear hbal
        have HLe4 := Lib.hid (Nat.succ_le_of_lt S4.out.qlt)
        go_wp2_with (first | (at_builtin; refine wpList_append_codes _ rfl _ _ rfl (q + 1) _ _ rfl S4.out.ow _ 1 [⟨x.op, gD.1, x.a, x.b, x.im, x.to⟩] rfl HIy.out HSmE.out HLe4.out ?_; intro voE wzE hoE hgrE; have S5 := Lib.hid (S4.out.app hgrE hoE); have HItF := Lib.hid (HItE.out.grown hgrE HNvD.out); clear hoE hgrE) | (at_builtin; refine wpList_append_codes _ rfl _ _ rfl (q + 1) _ _ rfl S5.out.ow aaD _ (gD.2) rfl HItF.out HSmF.out (Nat.succ_le_of_lt S5.out.qlt) ?_; intro voF wzF hoF hgrF; have S6 := Lib.hid (S5.out.app hgrF hoF); clear hoF hgrF))
        go_ret
        refine ⟨⟨_, rfl, ?_⟩, S6.out.low⟩
        have hfin := owns_base S6.out.ow (B' := w.heap.size) (by have := S6.out.ord; omega)
        rw [HFin.out] at hfin
        exact hfin
end Go.Proofs.Ytjfpaelmcepidaa.PK
