/- Packed of several texts. -/
import Derived.Test.YtbbbflnnbbaamaaGreatDoorH47
import Derived.Test.YtbbbflnnbbaamaaGreatDoorH10
import Derived.WalkKit
namespace Go.Proofs.YtbbbflnnbbaamaaGreatDoor.PK
open Go.RowKit Mini

def allocs (w : World) : List Obj → World
 | [] => w
 | o :: os => allocs (w.alloc o) os
theorem allocs_keep : ∀ (os : List Obj) (w : World) (j : Nat), j < w.heap.size → (allocs w os).heap[j]? = w.heap[j]?
 | [], _, _, _ => rfl
 | o :: os, w, j, h => by
  show (allocs (w.alloc o) os).heap[j]? = _
  rw [allocs_keep os (w.alloc o) j (by simp; omega), Below.heap_alloc _ _ _ h]
theorem allocs_at : ∀ (os : List Obj) (w : World) (j : Nat) (o : Obj), os[j]? = some o → (allocs w os).heap[w.heap.size + j]? = some o
 | [], _, _, _, h => by simp at h
 | o' :: os, w, 0, o, h => by
  obtain rfl : o' = o := by simpa using h
  show (allocs (w.alloc o') os).heap[w.heap.size]? = _
  rw [allocs_keep os (w.alloc o') _ (by simp)]
  exact heap_alloc_new _ _
 | o' :: os, w, j + 1, o, h => by
  have := allocs_at os (w.alloc o') j o (by simpa using h)
  show (allocs (w.alloc o') os).heap[w.heap.size + (j + 1)]? = _
  rw [show w.heap.size + (j + 1) = (w.alloc o').heap.size + j by simp; omega]
  exact this
theorem allocs_below : ∀ (os : List Obj) (w w0 : World), Below w0.heap.size w0 w → w0.heap.size ≤ w.heap.size → Below w0.heap.size w0 (allocs w os)
 | [], _, _, h, _ => h
 | o :: os, w, w0, h, hs => allocs_below os (w.alloc o) w0 (h.alloc hs o) (by simp; omega)
def objsF (b0 : Nat) (p n s t b : Int) : List Obj :=
 [.cells #[.int .i64 p, .int .i64 n, .int .u32 s, .int .u32 t, .int .u32 b] 24, .cells #[.slice none 0 0, .int .i64 n, .slice none 0 0, .slice (some ⟨b0 + 13, 0, none⟩) 4 4] 31,
  .cells #[.int .i64 1] 3,
  .cells #[.int .i64 0, .int .i64 n, .int .i64 0, .slice none 0 0, .int .u32 s, .slice none 0 0, .int .i64 0, .int .i64 n, .int .i64 0, .slice none 0 0, .int .u32 t, .slice none 0 0, .int .i64 0, .int .i64 n, .int .i64 0, .slice none 0 0, .int .u32 b, .slice none 0 0, .int .i64 29, .int .i64 0, .int .i64 0, .slice none 0 0, .int .u32 0, .slice (some ⟨b0 + 0, 0, none⟩) 1 1] 63,
  .cells #[.int .i64 0, .int .i64 7] 3,
  .cells #[.int .i64 0, .int .i64 2] 3,
  .cells #[.int .i64 4, .int .i64 2] 3,
  .cells #[.int .i64 5] 3,
  .cells #[.int .i64 2, .int .i64 3] 3,
  .cells #[.int .i64 28, .int .i64 n, .int .i64 0, .slice (some ⟨b0 + 2, 0, none⟩) 2 2, .int .u32 0, .slice (some ⟨b0 + 3, 0, none⟩) 2 2, .int .i64 14, .int .i64 1, .int .i64 0, .slice (some ⟨b0 + 4, 0, none⟩) 2 2, .int .u32 p, .slice none 0 0, .int .i64 30, .int .i64 0, .int .i64 0, .slice (some ⟨b0 + 5, 0, none⟩) 1 1, .int .u32 0, .slice (some ⟨b0 + 6, 0, none⟩) 2 2] 63,
  .cells #[.int .i64 4, .int .i64 1] 3,
  .cells #[.int .i64 1] 3,
  .cells #[.int .i64 1, .int .i64 n, .int .i64 0, .slice (some ⟨b0 + 8, 0, none⟩) 2 2, .int .u32 0, .slice none 0 0, .int .i64 29, .int .i64 0, .int .i64 0, .slice none 0 0, .int .u32 0, .slice (some ⟨b0 + 9, 0, none⟩) 1 1] 63,
  .cells #[.int .i64 4] 3,
  .cells #[.int .i64 31, .int .i64 0, .int .i64 0, .slice (some ⟨b0 + 11, 0, none⟩) 1 1, .int .u32 0, .slice none 0 0] 63,
  .cells #[.slice (some ⟨b0 + 1, 0, none⟩) 4 4, .slice (some ⟨b0 + 7, 0, none⟩) 3 3, .slice (some ⟨b0 + 10, 0, none⟩) 2 2, .slice (some ⟨b0 + 12, 0, none⟩) 1 1] 64]
theorem objs_mem {w : World} {p n s t b : Int} : F0Mem (allocs w (objsF (w.heap.size + 2) p n s t b)) (w.heap.size + 2) p n s t b := by
 have hat : ∀ k o, (objsF (w.heap.size + 2) p n s t b)[k + 2]? = some o → (allocs w (objsF (w.heap.size + 2) p n s t b)).heap[w.heap.size + 2 + k]? = some o := fun k o h => by
  have := allocs_at _ w (k + 2) o h
  rwa [show w.heap.size + (k + 2) = w.heap.size + 2 + k by omega] at this
 generalize hW : allocs w (objsF (w.heap.size + 2) p n s t b) = W at *
 intro k r hr
 match k, hr with
 | 0, hr =>
  have hr : some (rowL 3 1 [iv 1]) = some r := hr
  cases hr
  exact rowAt_rnds (hat 0 _ rfl) (.cons (.v _) (.nil)) rfl (by show 1 ≤ far; decide)
 | 1, hr =>
  have hr : some (rowL 63 6 [iv 0, iv n, iv 0, nv, uv s, nv, iv 0, iv n, iv 0, nv, uv t, nv, iv 0, iv n, iv 0, nv, uv b, nv, iv 29, iv 0, iv 0, nv, uv 0, sv 0 1]) = some r := hr
  cases hr
  exact rowAt_rnds (hat 1 _ rfl) (.cons (.v _) (.cons (.v _) (.cons (.v _) (.cons (.v _) (.cons (.v _) (.cons (.v _) (.cons (.v _) (.cons (.v _) (.cons (.v _) (.cons (.v _) (.cons (.v _) (.cons (.v _) (.cons (.v _) (.cons (.v _) (.cons (.v _) (.cons (.v _) (.cons (.v _) (.cons (.v _) (.cons (.v _) (.cons (.v _) (.cons (.v _) (.cons (.v _) (.cons (.v _) (.cons (rnd_sl _ 0 1 (by decide)) (.nil))))))))))))))))))))))))) rfl (by show 24 ≤ far; decide)
 | 2, hr =>
  have hr : some (rowL 3 1 [iv 0, iv 7]) = some r := hr
  cases hr
  exact rowAt_rnds (hat 2 _ rfl) (.cons (.v _) (.cons (.v _) (.nil))) rfl (by show 2 ≤ far; decide)
 | 3, hr =>
  have hr : some (rowL 3 1 [iv 0, iv 2]) = some r := hr
  cases hr
  exact rowAt_rnds (hat 3 _ rfl) (.cons (.v _) (.cons (.v _) (.nil))) rfl (by show 2 ≤ far; decide)
 | 4, hr =>
  have hr : some (rowL 3 1 [iv 4, iv 2]) = some r := hr
  cases hr
  exact rowAt_rnds (hat 4 _ rfl) (.cons (.v _) (.cons (.v _) (.nil))) rfl (by show 2 ≤ far; decide)
 | 5, hr =>
  have hr : some (rowL 3 1 [iv 5]) = some r := hr
  cases hr
  exact rowAt_rnds (hat 5 _ rfl) (.cons (.v _) (.nil)) rfl (by show 1 ≤ far; decide)
 | 6, hr =>
  have hr : some (rowL 3 1 [iv 2, iv 3]) = some r := hr
  cases hr
  exact rowAt_rnds (hat 6 _ rfl) (.cons (.v _) (.cons (.v _) (.nil))) rfl (by show 2 ≤ far; decide)
 | 7, hr =>
  have hr : some (rowL 63 6 [iv 28, iv n, iv 0, sv 2 2, uv 0, sv 3 2, iv 14, iv 1, iv 0, sv 4 2, uv p, nv, iv 30, iv 0, iv 0, sv 5 1, uv 0, sv 6 2]) = some r := hr
  cases hr
  exact rowAt_rnds (hat 7 _ rfl) (.cons (.v _) (.cons (.v _) (.cons (.v _) (.cons (rnd_sl _ 2 2 (by decide)) (.cons (.v _) (.cons (rnd_sl _ 3 2 (by decide)) (.cons (.v _) (.cons (.v _) (.cons (.v _) (.cons (rnd_sl _ 4 2 (by decide)) (.cons (.v _) (.cons (.v _) (.cons (.v _) (.cons (.v _) (.cons (.v _) (.cons (rnd_sl _ 5 1 (by decide)) (.cons (.v _) (.cons (rnd_sl _ 6 2 (by decide)) (.nil))))))))))))))))))) rfl (by show 18 ≤ far; decide)
 | 8, hr =>
  have hr : some (rowL 3 1 [iv 4, iv 1]) = some r := hr
  cases hr
  exact rowAt_rnds (hat 8 _ rfl) (.cons (.v _) (.cons (.v _) (.nil))) rfl (by show 2 ≤ far; decide)
 | 9, hr =>
  have hr : some (rowL 3 1 [iv 1]) = some r := hr
  cases hr
  exact rowAt_rnds (hat 9 _ rfl) (.cons (.v _) (.nil)) rfl (by show 1 ≤ far; decide)
 | 10, hr =>
  have hr : some (rowL 63 6 [iv 1, iv n, iv 0, sv 8 2, uv 0, nv, iv 29, iv 0, iv 0, nv, uv 0, sv 9 1]) = some r := hr
  cases hr
  exact rowAt_rnds (hat 10 _ rfl) (.cons (.v _) (.cons (.v _) (.cons (.v _) (.cons (rnd_sl _ 8 2 (by decide)) (.cons (.v _) (.cons (.v _) (.cons (.v _) (.cons (.v _) (.cons (.v _) (.cons (.v _) (.cons (.v _) (.cons (rnd_sl _ 9 1 (by decide)) (.nil))))))))))))) rfl (by show 12 ≤ far; decide)
 | 11, hr =>
  have hr : some (rowL 3 1 [iv 4]) = some r := hr
  cases hr
  exact rowAt_rnds (hat 11 _ rfl) (.cons (.v _) (.nil)) rfl (by show 1 ≤ far; decide)
 | 12, hr =>
  have hr : some (rowL 63 6 [iv 31, iv 0, iv 0, sv 11 1, uv 0, nv]) = some r := hr
  cases hr
  exact rowAt_rnds (hat 12 _ rfl) (.cons (.v _) (.cons (.v _) (.cons (.v _) (.cons (rnd_sl _ 11 1 (by decide)) (.cons (.v _) (.cons (.v _) (.nil))))))) rfl (by show 6 ≤ far; decide)
 | 13, hr =>
  have hr : some (rowL 64 1 [sv 1 4, sv 7 3, sv 10 2, sv 12 1]) = some r := hr
  cases hr
  exact rowAt_rnds (hat 13 _ rfl) (.cons (rnd_sl _ 1 4 (by decide)) (.cons (rnd_sl _ 7 3 (by decide)) (.cons (rnd_sl _ 10 2 (by decide)) (.cons (rnd_sl _ 12 1 (by decide)) (.nil))))) rfl (by show 4 ≤ far; decide)
 | k + 14, hr => cases hr
set_option maxRecDepth 100000 in
theorem results_fn {fn : Func} {d : Tmp} (h : fn.results = #[.cell d 31]) (tmps : Array Value) (w : World) (g : Nat) (x0 x1 x2 x3 : Value) (hp : tmps.getD d undef = .pointer (some ⟨g, 0, none⟩)) (hr : w.heap[g]? = some (.cells #[x0, x1, x2, x3] 31 (0, 0))) :
  (results fn tmps).run Tryz.prog w = .ok (.agg #[x0, x1, x2, x3]) w := by
 have hp' : tmps[d]?.getD undef = .pointer (some ⟨g, 0, none⟩) := by simpa using hp
 have c0 := cell_of_row _ _ 0 _ _ _ hr; have c1 := cell_of_row _ _ 1 _ _ _ hr; have c2 := cell_of_row _ _ 2 _ _ _ hr; have c3 := cell_of_row _ _ 3 _ _ _ hr
 simp [results, h, hp', asAddr, loadVar, c0, c1, c2, c3, go_sem]
set_option maxRecDepth 100000 in
set_option maxHeartbeats 8000000 in
theorem counted_any (p : Nat) (n : Int) (s t b : Nat) (w : World) (hp : p ≤ 9) :
  Calls Tryz.prog 7 #[.agg #[.int .i64 (p : Nat), .int .i64 n, .int .u32 (s : Nat), .int .u32 (t : Nat), .int .u32 (b : Nat)]] w fun e w' => e = .returned (funW (w.heap.size + 2) n) ∧ F0Mem w' (w.heap.size + 2) p n s t b ∧ Below w.heap.size w w' := by
 have hp2 : (p : Int) ≤ 9 := by omega
 unfold funW
 go_enter Tryz.func7, Tryz.ntmps7
 go_wp2_with fail
 generalize hW : ((((((((((((((((w.alloc _).alloc _).alloc _).alloc _).alloc _).alloc _).alloc _).alloc _).alloc _).alloc _).alloc _).alloc _).alloc _).alloc _).alloc _).alloc _) = W
 have e : W = allocs w (objsF (w.heap.size + 2) p n s t b) := by rw [← hW]; rfl
 have hrF : W.heap[w.heap.size + 1]? = some (.cells #[.slice none 0 0, .int .i64 n, .slice none 0 0, .slice (some ⟨w.heap.size + 2 + 13, 0, none⟩) 4 4] 31 (0, 0)) := by
  rw [e]; exact allocs_at _ w 1 _ rfl
 have hm : F0Mem W (w.heap.size + 2) p n s t b := by rw [e]; exact objs_mem
 have hb : Below w.heap.size w W := by rw [e]; exact allocs_below _ w w (Below.refl _ _) (Nat.le_refl _)
 clear hW e
 exact bodyPost_ret (results_fn Tryz.results7 _ W (w.heap.size + 1) _ _ _ _ rfl hrF) rfl ⟨rfl, hm, hb⟩
end Go.Proofs.YtbbbflnnbbaamaaGreatDoor.PK
namespace Go.Proofs.YtbbbflnnbbaamaaGreatDoor.Mini
open Go.RowKit

def fillD : T Cell → Nat → List Cell → T Cell
 | t, _, [] => t
 | t, i, c :: cs => fillD (t.set i c) (i + 1) cs
theorem fillD_get : ∀ (cs : List Cell) (t : T Cell) (i j : Nat), i + cs.length ≤ far → (fillD t i cs).get j = if i ≤ j ∧ j < i + cs.length then cs[j - i]? else t.get j
 | [], t, i, j, _ => by
  rw [if_neg (by simp)]
  rfl
 | r :: rs, t, i, j, h => by
  simp only [List.length_cons] at h ⊢
  show (fillD (t.set i r) (i + 1) rs).get j = _
  rw [fillD_get rs _ (i + 1) j (by omega)]
  by_cases hj : j = i
  ·subst hj
   rw [if_neg (by omega), if_pos (by omega), T.get_set _ _ _ _ (by omega), if_pos rfl, Nat.sub_self]
   rfl
  ·by_cases hl : i + 1 ≤ j ∧ j < i + 1 + rs.length
   ·rw [if_pos hl, if_pos (by omega)]
    obtain ⟨d, rfl⟩ : ∃ d, j = i + 1 + d := ⟨j - (i + 1), by omega⟩
    rw [show i + 1 + d - (i + 1) = d by omega, show i + 1 + d - i = d + 1 by omega, List.getElem?_cons_succ]
   ·rw [if_neg hl, if_neg (by omega), T.get_set _ _ _ _ (by omega), if_neg hj]
def cellsE (p n s t b : Int) (e0 e1 e2 e3 : Cell) : List Cell := (rowsF p n s t b).map .live ++ [e0, e1, e2, e3]
noncomputable abbrev heapE (p n s t b : Int) (e0 e1 e2 e3 : Cell) : Heap := fillD .nil 0 (cellsE p n s t b e0 e1 e2 e3)
noncomputable def loopE (p n s t b : Int) (e0 e1 e2 e3 : Cell) : Option (MV × List (Option Cell)) :=
 match callR 38 [funM n] (heapE p n s t b e0 e1 e2 e3) 18 with
 | some (m1, H1, c1, _) => match callR 37 [m1, iv 1] H1 c1 with
  | some (.tup [_, e], H2, _, _) => some (e, (List.range 18).map H2.get)
  | _ => none
 | none => none
set_option maxRecDepth 1000000 in
theorem loop_e (p n s t b : Int) (e0 e1 e2 e3 : Cell) : loopE p n s t b e0 e1 e2 e3 = some (iv 0, (cellsE p n s t b e0 e1 e2 e3).map some) := by kernel_rfl
set_option maxRecDepth 1000000 in
theorem count_e (p n s t b : Int) (e0 e1 e2 e3 : Cell) : (callR 23 [funM n, iv 1] (heapE p n s t b e0 e1 e2 e3) 18).map (fun o => (o.1, (List.range 18).map o.2.1.get)) = some (.tup [.agg [iv (IntKind.i64.wrap p), iv n, uv s, uv t, uv b], .v (.bool true)], (cellsE p n s t b e0 e1 e2 e3).map some) := by kernel_rfl
structure Bx where
 b : Nat
 ty : Nat
 esz : Nat
 cells : List MV
def Bx.row (e : Bx) : Row := rowL e.ty e.esz e.cells
def exCell (ex : List Bx) (j : Nat) : Cell := match ex[j]? with
 | some e => .live e.row
 | none => .dead
def envE (b0 : Nat) (ex : List Bx) : Env := fun n => if n < 14 then some ⟨b0 + n, 0, 0⟩ else match ex[n - 14]? with
 | some e => some ⟨e.b, 0, 0⟩
 | none => none
theorem env0_le (b0 : Nat) (ex : List Bx) : (env0 b0).le (envE b0 ex) := fun n L h => by
 have hn : n < 14 := by
  unfold env0 envL at h
  split at h
  ·assumption
  ·cases h
 have he : env0 b0 n = some ⟨b0 + n, 0, 0⟩ := if_pos hn
 rw [he] at h
 rw [← h]
 exact if_pos hn
theorem RowAt.le {x y : Env} {w : World} {L : Loc} {r : Row} (h : RowAt x w L r) (hl : x.le y) : RowAt y w L r := ⟨h.arr, fun i hi => by
 obtain ⟨v, h1, h2, h3⟩ := h.cel i hi
 exact ⟨v, h1, h2.le hl, h3⟩, h.small⟩
theorem RowAt.back {b0 : Nat} {y : Env} {w : World} {L : Loc} {ty esz : Nat} {cells : List MV} (h : RowAt y w L (rowL ty esz cells)) (hx : (env0 b0).le y) (hok : cells.all okM = true) : RowAt (env0 b0) w L (rowL ty esz cells) := by
 refine ⟨h.arr, fun i hi => ?_, h.small⟩
 obtain ⟨v, h3, h4, h5⟩ := h.cel i hi
 have hi2 : i < cells.length := hi
 have hs2 : cells.length ≤ far := h.small
 have hcell : (rowL ty esz cells).cell i = cells[i] := by
  show ((Fill .nil 0 cells).get i).getD _ = _
  rw [get_fill _ _ _ _ (by omega), if_pos (by omega), Nat.sub_zero, List.getElem?_eq_getElem hi2]; rfl
 exact ⟨v, h3, rnd_back hx (by rw [hcell]; exact List.all_eq_true.1 hok _ (List.getElem_mem hi2)) h4, h5⟩
structure MemE (B b0 : Nat) (w : World) (p n s t b : Int) (ex : List Bx) : Prop where
 f : F0Mem w b0 p n s t b
 at' : ∀ e ∈ ex, RowAt (env0 b0) w ⟨e.b, 0, 0⟩ e.row
 ok : ∀ e ∈ ex, e.cells.all okM = true
 lo : B ≤ b0
 le : ∀ e ∈ ex, B ≤ e.b
 ne : ∀ e ∈ ex, e.b < b0 ∨ b0 + 14 ≤ e.b
 nd : ∀ (i j : Nat) (e e' : Bx), ex[i]? = some e → ex[j]? = some e' → e.b = e'.b → i = j
 len : ex.length ≤ 4
theorem cellsE_lo {p n s t b : Int} {e0 e1 e2 e3 : Cell} {k : Nat} (h : k < 14) : (cellsE p n s t b e0 e1 e2 e3)[k]? = ((rowsF p n s t b)[k]?).map .live := by
 unfold cellsE
 rw [List.getElem?_append_left (by rw [List.length_map]; exact h), List.getElem?_map]
theorem cellsE_hi {p n s t b : Int} {e0 e1 e2 e3 : Cell} {j : Nat} : (cellsE p n s t b e0 e1 e2 e3)[14 + j]? = [e0, e1, e2, e3][j]? := by
 unfold cellsE
 rw [List.getElem?_append_right (by rw [List.length_map]; show 14 ≤ 14 + j; omega), List.length_map, show 14 + j - (rowsF p n s t b).length = j from by show 14 + j - 14 = j; omega]
theorem ex_four (ex : List Bx) {j : Nat} (h : j < 4) : [exCell ex 0, exCell ex 1, exCell ex 2, exCell ex 3][j]? = some (exCell ex j) := by
 match j, h with
 | 0, _ => rfl
 | 1, _ => rfl
 | 2, _ => rfl
 | 3, _ => rfl
theorem MemE.rel {B b0 : Nat} {w : World} {p n s t b : Int} {ex : List Bx} (h : MemE B b0 w p n s t b ex) : Rel B (envE b0 ex) (heapE p n s t b (exCell ex 0) (exCell ex 1) (exCell ex 2) (exCell ex 3)) w := by
 have hget : ∀ k, (heapE p n s t b (exCell ex 0) (exCell ex 1) (exCell ex 2) (exCell ex 3)).get k = (cellsE p n s t b (exCell ex 0) (exCell ex 1) (exCell ex 2) (exCell ex 3))[k]? := fun k => by
  show (fillD .nil 0 _).get k = _
  rw [fillD_get _ _ 0 k (by show 0 + 18 ≤ far; decide)]
  by_cases hk : k < 18
  ·rw [if_pos ⟨Nat.zero_le _, by show k < 0 + 18; omega⟩, Nat.sub_zero]
  ·rw [if_neg (by show ¬ (0 ≤ k ∧ k < 0 + 18); omega), T.get_nil, List.getElem?_eq_none (by show 18 ≤ k; omega)]
 have key : ∀ k c, (heapE p n s t b (exCell ex 0) (exCell ex 1) (exCell ex 2) (exCell ex 3)).get k = some c → c ≠ .dead → (k < 14 ∧ ∃ r, (rowsF p n s t b)[k]? = some r ∧ c = .live r) ∨ ∃ j e, k = 14 + j ∧ ex[j]? = some e ∧ c = .live e.row := fun k c hc hd => by
  rw [hget] at hc
  by_cases hk : k < 14
  ·rw [cellsE_lo hk] at hc
   obtain ⟨r, h1, h2⟩ := Option.map_eq_some_iff.1 hc
   exact .inl ⟨hk, r, h1, h2.symm⟩
  ·obtain ⟨j, rfl⟩ : ∃ j, k = 14 + j := ⟨k - 14, by omega⟩
   rw [cellsE_hi] at hc
   by_cases hj : j < 4
   ·rw [ex_four ex hj] at hc
    obtain rfl := Option.some.inj hc
    unfold exCell at hd ⊢
    cases he : ex[j]? with
    | none => rw [he] at hd; exact absurd rfl hd
    | some e => exact .inr ⟨j, e, rfl, he, rfl⟩
   ·rw [List.getElem?_eq_none (by show 4 ≤ j; omega)] at hc; cases hc
 have hlo : ∀ k, k < 14 → envE b0 ex k = some ⟨b0 + k, 0, 0⟩ := fun k hk => if_pos hk
 have hhi : ∀ j e, ex[j]? = some e → envE b0 ex (14 + j) = some ⟨e.b, 0, 0⟩ := fun j e he => by
  unfold envE
  rw [if_neg (by omega), show 14 + j - 14 = j by omega, he]
 refine ⟨fun k c hc hd => ?_, fun k m c c' L L' hc hd hc' hd' h1 h2 h3 => ?_, fun k L hL hk => ?_, Nat.le_trans h.lo h.f.size⟩
 ·rcases key k c hc hd with ⟨hk, r, h1, rfl⟩ | ⟨j, e, rfl, h1, rfl⟩
  ·exact ⟨_, hlo k hk, by show B ≤ b0 + k; have := h.lo; omega, (h.f k r h1).lt, (h.f k r h1).le (env0_le b0 ex)⟩
  ·have hm := List.mem_of_getElem? h1
   exact ⟨_, hhi j e h1, h.le e hm, (h.at' e hm).lt, (h.at' e hm).le (env0_le b0 ex)⟩
 ·rcases key k c hc hd with ⟨hk, r, g1, rfl⟩ | ⟨j, e, rfl, g1, rfl⟩
  ·rw [hlo k hk] at h1; cases h1
   rcases key m c' hc' hd' with ⟨hm, r', g2, rfl⟩ | ⟨j', e', rfl, g2, rfl⟩
   ·rw [hlo m hm] at h2; cases h2
    simp only at h3; omega
   ·rw [hhi j' e' g2] at h2; cases h2
    have := h.ne e' (List.mem_of_getElem? g2)
    simp only at h3; omega
  ·rw [hhi j e g1] at h1; cases h1
   rcases key m c' hc' hd' with ⟨hm, r', g2, rfl⟩ | ⟨j', e', rfl, g2, rfl⟩
   ·rw [hlo m hm] at h2; cases h2
    have := h.ne e (List.mem_of_getElem? g1)
    simp only at h3; omega
   ·rw [hhi j' e' g2] at h2; cases h2
    simp only at h3
    have := h.nd j j' e e' g1 g2 h3
    omega
 ·rw [hget] at hk
  by_cases h14 : k < 14
  ·have : (cellsE p n s t b (exCell ex 0) (exCell ex 1) (exCell ex 2) (exCell ex 3))[k]? ≠ none := by
    rw [cellsE_lo h14, List.getElem?_eq_getElem (show k < (rowsF p n s t b).length from h14)]
    exact fun e => by cases e
   exact this hk
  ·obtain ⟨j, rfl⟩ : ∃ j, k = 14 + j := ⟨k - 14, by omega⟩
   rw [cellsE_hi] at hk
   unfold envE at hL
   rw [if_neg h14, show 14 + j - 14 = j by omega] at hL
   cases he : ex[j]? with
   | none => rw [he] at hL; cases hL
   | some e =>
    have hj : j < ex.length := by
     rcases Nat.lt_or_ge j ex.length with g | g
     ·exact g
     ·rw [List.getElem?_eq_none g] at he; cases he
    rw [ex_four ex (by have := h.len; omega)] at hk
    cases hk
theorem MemE.back {B b0 : Nat} {w w' : World} {y : Env} {H' : Heap} {p n s t b : Int} {ex : List Bx} (h : MemE B b0 w p n s t b ex) (hx : (envE b0 ex).le y) (hR : Rel B y H' w') (hk : (List.range 18).map H'.get = (cellsE p n s t b (exCell ex 0) (exCell ex 1) (exCell ex 2) (exCell ex 3)).map some) : MemE B b0 w' p n s t b ex := by
 have hx0 := Env.le_trans (env0_le b0 ex) hx
 have hg : ∀ k c, k < 18 → (cellsE p n s t b (exCell ex 0) (exCell ex 1) (exCell ex 2) (exCell ex 3))[k]? = some c → H'.get k = some c := fun k c h18 hc => by
  have h1 := congrArg (fun l => l[k]?) hk
  simp only [List.getElem?_map, hc, Option.map_some] at h1
  rw [List.getElem?_range h18] at h1
  simpa using h1
 refine ⟨F0Mem.of_rel hx0 hR ?_, fun e he => ?_, h.ok, h.lo, h.le, h.ne, h.nd, h.len⟩
 ·apply List.ext_getElem?
  intro k
  rw [List.getElem?_map, List.getElem?_map]
  by_cases h14 : k < 14
  ·rw [List.getElem?_range h14]
   have hr := List.getElem?_eq_getElem (show k < (rowsF p n s t b).length from h14)
   rw [hr]
   have := hg k (.live (rowsF p n s t b)[k]) (by omega) (by rw [cellsE_lo h14, hr]; rfl)
   show some (H'.get k) = some (some _)
   rw [this]
   rfl
  ·rw [List.getElem?_eq_none (by simp; omega), List.getElem?_eq_none (by show 14 ≤ k; omega)]; rfl
 ·obtain ⟨j, hj⟩ := List.mem_iff_getElem?.1 he
  have hjl : j < ex.length := by
   rcases Nat.lt_or_ge j ex.length with g | g
   ·exact g
   ·rw [List.getElem?_eq_none g] at hj; cases hj
  have hj4 : j < 4 := by have := h.len; omega
  have hc : exCell ex j = .live e.row := by unfold exCell; rw [hj]
  obtain ⟨L, hL, _, _, hrow⟩ := hR.live (14 + j) (.live e.row) (hg (14 + j) _ (by omega) (by rw [cellsE_hi, ex_four ex hj4, hc])) (fun e => by cases e)
  have h2 := hx (14 + j) ⟨e.b, 0, 0⟩ (by
   unfold envE
   rw [if_neg (by omega), show 14 + j - 14 = j by omega, hj])
  rw [hL] at h2
  cases h2
  exact RowAt.back hrow hx0 (h.ok e he)
end Go.Proofs.YtbbbflnnbbaamaaGreatDoor.Mini
namespace Go.Proofs.YtbbbflnnbbaamaaGreatDoor.Mini
open Go.RowKit

theorem countOf_E {B b0 : Nat} {w : World} {p n s t b : Int} {ex : List Bx} (h : MemE B b0 w p n s t b ex) :
  Calls Tryz.prog 23 #[funW b0 n, .int .i64 1] w fun e w' => e = .returned (.tuple #[.agg #[.int .i64 (IntKind.i64.wrap p), .int .i64 n, .int .u32 s, .int .u32 t, .int .u32 b], .bool true]) ∧ MemE B b0 w' p n s t b ex ∧ Below B w w' := by
 obtain ⟨⟨m, H', c', l'⟩, h1, h2⟩ := Option.map_eq_some_iff.1 (count_e p n s t b (exCell ex 0) (exCell ex 1) (exCell ex 2) (exCell ex 3))
 simp only [Prod.mk.injEq] at h2
 obtain ⟨rfl, h3⟩ := h2
 refine (reckon_at h1 h.rel (.cons ((fun_rnd b0 n).le (env0_le b0 ex)) (.cons (.v (.int .i64 1)) .nil))).mono fun e w' ⟨v, he, y, hx, hR, hv, hb⟩ => ?_
 refine ⟨?_, h.back hx hR h3, hb⟩
 rw [he]
 cases hv with
 | tup hs =>
  cases hs with
  | cons a1 r1 =>
   cases r1 with
   | cons a2 r2 =>
    cases r2
    cases a2
    cases a1 with
    | agg g1 =>
     cases g1 with
     | cons a g1 => cases a; cases g1 with
      | cons a g1 => cases a; cases g1 with
       | cons a g1 => cases a; cases g1 with
        | cons a g1 => cases a; cases g1 with
         | cons a g1 => cases a; cases g1; rfl
theorem graphOf_E {B b0 : Nat} {w : World} {p n s t b : Int} {ex : List Bx} (h : MemE B b0 w p n s t b ex) :
  Calls Tryz.prog 38 #[funW b0 n] w fun e w' => ∃ v, e = .returned v ∧ Below B w w' ∧ Calls Tryz.prog 37 #[v, .int .i64 1] w' fun e w'' => (∃ a, e = .returned (.tuple #[a, .int .i64 0])) ∧ MemE B b0 w'' p n s t b ex ∧ Below B w' w'' := by
 have hr := loop_e p n s t b (exCell ex 0) (exCell ex 1) (exCell ex 2) (exCell ex 3)
 unfold loopE at hr
 split at hr
 ·rename_i m1 H1 c1 l1 h1
  split at hr
  ·rename_i m2 e2 H2 c2 l2 h2
   simp only [Option.some.injEq, Prod.mk.injEq] at hr
   obtain ⟨rfl, h3⟩ := hr
   refine (reckon_at h1 h.rel (.cons ((fun_rnd b0 n).le (env0_le b0 ex)) .nil)).mono fun e w' ⟨v, he, y, hx, hR, hv, hb⟩ => ?_
   refine ⟨v, he, hb, ?_⟩
   refine (reckon_at h2 hR (.cons hv (.cons (.v (.int .i64 1)) .nil))).mono fun e' w'' ⟨v', he', y', hx', hR', hv', hb'⟩ => ?_
   refine ⟨?_, h.back (Env.le_trans hx hx') hR' h3, hb'⟩
   rw [he']
   cases hv' with
   | tup hs =>
    cases hs with
    | cons a1 r1 =>
     cases r1 with
     | cons a2 r2 =>
      cases r2
      cases a2
      exact ⟨_, rfl⟩
  ·cases hr
 ·cases hr
theorem rowAt_below {x : Env} {w w' : World} {L : Loc} {r : Row} (h0 : RowAt x w L r) (hb : Below w.heap.size w w') : RowAt x w' L r := by
 obtain ⟨a, h1, h2⟩ := h0.arr
 exact ⟨⟨a, PK.row_below h1 hb, h2⟩, fun i hi => by
  obtain ⟨v, h3, h4, h5⟩ := h0.cel i hi
  exact ⟨v, PK.keep h3 hb, h4, h5⟩, h0.small⟩
theorem MemE.below {B b0 : Nat} {w w' : World} {p n s t b : Int} {ex : List Bx} (h : MemE B b0 w p n s t b ex) (hb : Below w.heap.size w w') : MemE B b0 w' p n s t b ex :=
 ⟨PK.F0Mem.below h.f hb, fun e he => rowAt_below (h.at' e he) hb, h.ok, h.lo, h.le, h.ne, h.nd, h.len⟩
theorem MemE.push {B b0 : Nat} {w w' : World} {p n s t b : Int} {ex : List Bx} (h : MemE B b0 w p n s t b ex) (hb : Below w.heap.size w w') (g ty esz : Nat) (cells : List MV) (hg : w.heap.size ≤ g) (hr : RowAt (env0 b0) w' ⟨g, 0, 0⟩ (rowL ty esz cells)) (hok : cells.all okM = true) (hl : ex.length ≤ 3) :
  MemE B b0 w' p n s t b (⟨g, ty, esz, cells⟩ :: ex) := by
 have h' := h.below hb
 have hlt : ∀ e ∈ ex, e.b < w.heap.size := fun e he => (h.at' e he).lt
 have h13 : b0 + 13 < w.heap.size := (h.f 13 _ rfl).lt
 have hlo := h.lo
 refine ⟨h'.f, fun e he => ?_, fun e he => ?_, h.lo, fun e he => ?_, fun e he => ?_, fun i j e e' hi hj hb => ?_, by show ex.length + 1 ≤ 4; omega⟩
 ·rcases List.mem_cons.1 he with rfl | he
  ·exact hr
  ·exact h'.at' e he
 ·rcases List.mem_cons.1 he with rfl | he
  ·exact hok
  ·exact h.ok e he
 ·rcases List.mem_cons.1 he with rfl | he
  ·show B ≤ g; omega
  ·exact h.le e he
 ·rcases List.mem_cons.1 he with rfl | he
  ·exact .inr (by show b0 + 14 ≤ g; omega)
  ·exact h.ne e he
 ·match i, j, hi, hj with
  | 0, 0, _, _ => rfl
  | 0, j + 1, hi, hj =>
   obtain rfl := Option.some.inj (show some _ = some e from hi)
   have := hlt e' (List.mem_of_getElem? (show ex[j]? = some e' from hj))
   simp only at hb; omega
  | i + 1, 0, hi, hj =>
   obtain rfl := Option.some.inj (show some _ = some e' from hj)
   have := hlt e (List.mem_of_getElem? (show ex[i]? = some e from hi))
   simp only at hb; omega
  | i + 1, j + 1, hi, hj => rw [h.nd i j e e' hi hj hb]
theorem MemE.pop {B b0 : Nat} {w : World} {p n s t b : Int} {e : Bx} {ex : List Bx} (h : MemE B b0 w p n s t b (e :: ex)) : MemE B b0 w p n s t b ex :=
 ⟨h.f, fun x hx => h.at' x (List.mem_cons_of_mem _ hx), fun x hx => h.ok x (List.mem_cons_of_mem _ hx), h.lo, fun x hx => h.le x (List.mem_cons_of_mem _ hx), fun x hx => h.ne x (List.mem_cons_of_mem _ hx),
  fun i j x x' hi hj hb => by have := h.nd (i + 1) (j + 1) x x' hi hj hb; omega, by have := h.len; simp only [List.length_cons] at this; omega⟩
theorem MemE.top {B b0 : Nat} {w : World} {p n s t b : Int} {e : Bx} {ex : List Bx} (h : MemE B b0 w p n s t b (e :: ex)) : RowAt (env0 b0) w ⟨e.b, 0, 0⟩ (rowL e.ty e.esz e.cells) := h.at' e (List.mem_cons_self ..)
end Go.Proofs.YtbbbflnnbbaamaaGreatDoor.Mini
namespace Go.Proofs.YtbbbflnnbbaamaaGreatDoor
open Go.RowKit

def Cg (m a b : Int) : Prop := a % m = b % m
theorem Cg.rfl {m a : Int} : Cg m a a := Eq.refl _
theorem Cg.sym {m a b : Int} (h : Cg m a b) : Cg m b a := Eq.symm h
theorem Cg.tr {m a b c : Int} (h : Cg m a b) (g : Cg m b c) : Cg m a c := Eq.trans h g
theorem Cg.add {m a b c d : Int} (h : Cg m a b) (g : Cg m c d) : Cg m (a + c) (b + d) := by
 unfold Cg at *; rw [Int.add_emod, h, g, ← Int.add_emod]
theorem Cg.mul {m a b c d : Int} (h : Cg m a b) (g : Cg m c d) : Cg m (a * c) (b * d) := by
 unfold Cg at *; rw [Int.mul_emod, h, g, ← Int.mul_emod]
theorem Cg.mod {m M a : Int} (h : m ∣ M) : Cg m (a % M) a := Int.emod_emod_of_dvd a h
theorem Cg.of {a b m : Int} (h : a = b) : Cg m a b := by rw [h]; exact Cg.rfl

theorem pow_nat (k : Nat) : ((2 ^ k : Nat) : Int) = (2 : Int) ^ k := by simp
theorem pow_dvd32 (n : Int) (h2 : n ≤ 32) : (2 : Int) ^ n.toNat ∣ 4294967296 := by
 have h : n.toNat ≤ 32 := by omega
 have := Nat.pow_dvd_pow 2 h
 rw [← pow_nat]; exact Int.ofNat_dvd.2 this
theorem pow_dvd64 (n : Int) (h2 : n ≤ 32) : (2 : Int) ^ n.toNat ∣ 18446744073709551616 :=
 Int.dvd_trans (pow_dvd32 n h2) ⟨4294967296, by decide⟩

theorem and_u32_nat (a b : Nat) (ha : a < 4294967296) (hb : b < 4294967296) : bits .and .u32 (a : Int) (b : Int) = ((a &&& b : Nat) : Int) := by
 have hx : a &&& b < 2 ^ 32 := Nat.and_lt_two_pow _ (by omega)
 have h1 : (BitVec.ofInt 32 (a : Int)).toNat = a := by
  rw [BitVec.ofInt_natCast, BitVec.toNat_ofNat]; exact Nat.mod_eq_of_lt (by omega)
 have h2 : (BitVec.ofInt 32 (b : Int)).toNat = b := by
  rw [BitVec.ofInt_natCast, BitVec.toNat_ofNat]; exact Nat.mod_eq_of_lt (by omega)
 show IntKind.u32.wrap ((BitVec.ofInt 32 (a : Int) &&& BitVec.ofInt 32 (b : Int)).toNat : Int) = _
 rw [BitVec.toNat_and, h1, h2]
 simp only [IntKind.wrap, IntKind.signed, IntKind.bits, Bool.false_and, Bool.false_eq_true, if_false]
 omega

theorem and_mask (X n : Int) (h0 : 0 ≤ X) (h1 : X < 4294967296) (n1 : 0 ≤ n) (n2 : n ≤ 32) : bits .and .u32 X (2 ^ n.toNat - 1) = X % 2 ^ n.toNat := by
 obtain ⟨x, rfl⟩ := Int.eq_ofNat_of_zero_le h0
 have hk : n.toNat ≤ 32 := by omega
 have hp : 0 < 2 ^ n.toNat := Nat.pow_pos (by decide)
 have hq : 2 ^ n.toNat ≤ 2 ^ 32 := Nat.pow_le_pow_right (by decide) hk
 have e : (2 : Int) ^ n.toNat - 1 = ((2 ^ n.toNat - 1 : Nat) : Int) := by rw [← pow_nat]; omega
 rw [e, and_u32_nat x _ (by omega) (by omega), Nat.and_two_pow_sub_one_eq_mod, ← pow_nat]
 omega

def pairs (n : Int) : Int := if n % 2 = 1 then (n - 1) / 2 * n else n / 2 * (n - 1)
end Go.Proofs.YtbbbflnnbbaamaaGreatDoor
