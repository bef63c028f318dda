/- make and copy over instructions. -/
import Derived.Test.YtjfpaelmcepidaaKQ
import Derived.Laws.CopyRow
import Derived.Laws.MakeOwn
namespace Go.Proofs.Ytjfpaelmcepidaa.PK
open Go.RowKit

theorem Try.underCodes : Try.prog.underlying 48 = some (.slice 68) := by kernel_rfl
theorem make_codes (n : Nat) (hn : n ≤ 1000) : ∃ M : Array Value, M.size = (n + 1) * 6 ∧ ∀ w, (Instr.makeSlice 48 (.int .i64 (n : Int)) (.int .i64 ((n : Int) + 1))).run Try.prog w = .ok (.slice (some ⟨w.heap.size, 0, none⟩) n (n + 1)) (w.alloc (.cells M 68)) := by
  obtain ⟨i, hi, h0, h1, h2⟩ := info_parts Try.infoCode
  refine ⟨madeCells (#[.int .i64 0, .int .i64 0, .int .i64 0, .int .i64 0, .int .u32 0, .int .i64 0]) ((n + 1) * 6), size_madeCells _ _, fun w => ?_⟩
  have h := run_make (P := Try.prog) w 48 68 i _ Try.underCodes hi h0 .i64 .i64 n ((n : Int) + 1) (by omega) (by omega) (by rw [h2]; omega) (by omega)
  rw [h1] at h
  have e : ((n : Int) + 1).toNat = n + 1 := by omega
  rw [e, Int.toNat_natCast] at h
  exact h
theorem run_copy_codes (w : World) (ty : TypeId) (g c sc : Nat) (l : List Cd) (ad : Option Addr) (M : Array Value) (hg : w.heap[g]? = some (.cells M 68 (0, 0))) (hM : l.length * 6 ≤ M.size) (hin : CdsIn w ad l) :
    ∃ w', (Builtin.copy_ #[48, 48] ty #[.slice (some ⟨g, 0, none⟩) l.length c, .slice ad l.length sc]).run Try.prog w = .ok (goInt l.length) w' ∧
      w'.heap[g]? = some (.cells (encC l ++ M.toList.drop (l.length * 6)).toArray 68 (0, 0)) ∧ ∀ B w0, Below B w0 w → B ≤ g → Below B w0 w' := by
  obtain ⟨i, hi, _, h1, _⟩ := info_parts Try.infoCode
  by_cases h0 : l = []
  · subst h0
    refine ⟨w, ?_, by simpa [encC] using hg, fun _ _ h _ => h⟩
    have hl : ∀ (x : Addr), (loadCells x 0).run Try.prog w = .ok #[] w := fun x => by simpa using run_loadCells_list (P := Try.prog) w x [] (by simp)
    cases ad <;> simp [Builtin.copy_, run_underlying Try.underCodes, Builtin.lenOf, Builtin.firstCells, sizeOf, typeInfo, hi, storeCells, hl]
  · obtain ⟨b, off, rfl, _⟩ := hin 0 (List.length_pos_iff.2 h0)
    have hl := run_loadCells_list (P := Try.prog) w ⟨b, off, none⟩ (encC l) fun j v hj => by
      have : (⟨b, off, none⟩ : Addr).add j = ⟨b, off + j, none⟩ := by unfold Addr.add; split <;> simp_all
      rw [this]; exact cds_cells hin j v hj
    have hst := run_storeCells_at Try.prog g 0 68 (encC l) 0 M w hg (by rw [encC_len]; omega) (encC_one l)
    rw [encC_len] at hl hst
    refine ⟨w.setRow g (encC l ++ M.toList.drop (l.length * 6)).toArray, ?_, setRow_heap w g M _ _ _ hg, fun B w0 hb hB => hb.trans ⟨rfl, rfl, rfl, by simp [World.setRow], fun k hk => setRow_other w g k _ (by omega)⟩⟩
    simp [Builtin.copy_, run_underlying Try.underCodes, Builtin.lenOf, Builtin.firstCells, sizeOf, typeInfo, hi, h1, hl, hst]
theorem wpList_copy_codes {ops : Array Oper} {rest : List Oper} {o : Oper} {a : Act} {Q : Exit → Act → World → Prop} (hgd : o.guard = none) (d s : Operand)
    (ho : o.op = .call { callee := .builtin .copy, args := #[d, s], argTypes := #[48, 48] }) (w : World) (g c sc : Nat) (l : List Cd) (ad : Option Addr) (M : Array Value) (hd : a.eval d = .slice (some ⟨g, 0, none⟩) l.length c) (hs : a.eval s = .slice ad l.length sc)
    (hg : w.heap[g]? = some (.cells M 68 (0, 0))) (hM : l.length * 6 ≤ M.size) (hin : CdsIn w ad l)
    (h : ∀ w', Hid (w'.heap[g]? = some (.cells (encC l ++ M.toList.drop (l.length * 6)).toArray 68 (0, 0))) → Hid (∀ B w0, Below B w0 w → B ≤ g → Below B w0 w') → wpList Try.prog ops Q rest (a.put o.dst (goInt l.length)) w') : wpList Try.prog ops Q (o :: rest) a w := by
  obtain ⟨w', hr, h1, h2⟩ := run_copy_codes w o.type g c sc l ad M hg hM hin
  refine wpList_plain hgd fun K hK => ?_
  unfold Oper.wp
  simp [execOp, ho, resolve, invoke, builtin, hd, hs, hr, Result.andThen]
  exact hK _ _ (h w' (Lib.hid h1) (Lib.hid h2))
theorem owns_made {w : World} {B g n cap : Nat} {l : List Cd} {R : List Value} (hB : B ≤ g) (hg : w.heap[g]? = some (.cells (encC l ++ R).toArray 68 (0, 0))) (hn : n = l.length) (hc : n ≤ cap) (hm : cap ≤ 1000) (hR : n * 6 + R.length = cap * 6) :
    w.ownsRow B 68 6 (.slice (some ⟨g, 0, none⟩) n cap) n (encC l) := by
  subst hn
  refine ⟨encC_len l, .inr ⟨g, cap, _, rfl, hB, hg, hc, by unfold maxLen; omega, ?_, ?_⟩⟩
  · rw [List.size_toArray, List.length_append, encC_len]; exact hR
  · rw [List.toList_toArray, ← encC_len, List.take_left']; rfl
theorem blk_one (w : World) (a : Option Addr) (cap : Nat) (l : List Cd) (t : TypeId) (h : CdsIn w a l) : BlkIn (w.alloc (.cells #[.slice a l.length cap] t)) (some ⟨w.heap.size, 0, none⟩) [l] := fun k hk => by
  have hk0 : k = 0 := by simp at hk; exact hk
  subst hk0
  exact ⟨w.heap.size, 0, a, cap, rfl, by simp [go_sem, atB], h.below ((Below.refl _ _).alloc (Nat.le_refl _) _)⟩
end Go.Proofs.Ytjfpaelmcepidaa.PK
