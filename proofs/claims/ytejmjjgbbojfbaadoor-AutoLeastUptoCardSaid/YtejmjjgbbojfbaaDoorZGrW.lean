/- auto: a graph in memory: cells written; made of noughts. -/
import Derived.Test.YtejmjjgbbojfbaaDoorZGrA
namespace Go.Proofs.YtejmjjgbbojfbaaDoor
set_option linter.unusedVariables false
open Go.ChangeShapes Go.WideShapes Go.ChangeAt Go.RowKit

theorem GraphAt.congr {w : World} {B g : Nat} {nv av : Value} {T T2 : Tab} (h : GraphAt w B g nv av T) (hn : T2.n = T.n) (ha : ∀ s, s < T.n → T.acc s = T2.acc s) (hx : ∀ s c, s < T.n → c < 256 → T.nx s c = T2.nx s c) : GraphAt w B g nv av T2 := by
  refine ⟨h.blk, h.hg, ?_, ?_⟩
  · rw [hn, ← flatN_congr hx]; exact h.next
  · rw [hn, show ((List.range T.n).map fun s => Value.bool (T2.acc s)) = (List.range T.n).map fun s => Value.bool (T.acc s) from List.map_congr_left (fun s hs => by rw [ha s (List.mem_range.1 hs)])]; exact h.acc
theorem flatN_set (nx : Nat → Nat → Nat) {n k j : Nat} (hk : k < n) (hj : j < 256) (v : Nat) : (flatN nx n).set (k * 256 + j) (.int .i64 ((v : Nat) : Int)) = flatN (fun s c => if s = k ∧ c = j then v else nx s c) n := by
  refine List.ext_getElem? fun i => ?_
  by_cases hi : i < n * 256
  · have e2 := flatN_get (fun s c => if s = k ∧ c = j then v else nx s c) (n := n) (s := i / 256) (c := i % 256) (by omega) (by omega)
    have e1 := flatN_get nx (n := n) (s := i / 256) (c := i % 256) (by omega) (by omega)
    rw [show i / 256 * 256 + i % 256 = i by omega] at e1 e2
    rw [e2, List.getElem?_set]
    by_cases e : k * 256 + j = i
    · rw [if_pos e, if_pos (by rw [flatN_length]; omega), if_pos ⟨by omega, by omega⟩]
    · rw [if_neg e, e1, if_neg (fun h9 => e (by omega))]
  · rw [List.getElem?_eq_none (by rw [List.length_set, flatN_length]; omega), List.getElem?_eq_none (by rw [flatN_length]; omega)]
theorem GraphAt.setNx {w : World} {B g b c : Nat} {av : Value} {T : Tab} (h : GraphAt w B g (.slice (some ⟨b, 0, none⟩) T.n c) av T) {k j : Nat} (hk : k < T.n) (hj : j < 256) (v : Nat) :
    GraphAt (w.setCell ⟨b, k * 256 + j, none⟩ (.int .i64 ((v : Nat) : Int))) B g (.slice (some ⟨b, 0, none⟩) T.n c) av ⟨T.n, T.acc, fun s c => if s = k ∧ c = j then v else T.nx s c⟩ := by
  obtain ⟨h1, h2⟩ := World.ownsRow.stored h.next (k * 256 + j) (.int .i64 ((v : Nat) : Int))
  rw [flatN_set T.nx hk hj v] at h1
  have he := Eff.ofGrown h2
  have hng : some b ≠ some g := ownsRow_ne h.next h.blk (by decide)
  exact ⟨(he.block g (lt_of_heap h.blk) hng).trans h.blk, h.hg, h1, h.acc.eff he (fun q hq e => ownsRow_types h.next h.acc (by decide) hq e)⟩
theorem bools_set (f : Nat → Bool) (n k : Nat) (v : Bool) : ((List.range n).map fun s => Value.bool (f s)).set k (.bool v) = (List.range n).map fun s => Value.bool (if s = k then v else f s) := by
  refine List.ext_getElem? fun i => ?_
  rw [List.getElem?_set]
  by_cases hi : i < n
  · by_cases e : k = i
    · subst e; simp [hi]
    · rw [if_neg e, List.getElem?_map, List.getElem?_map, List.getElem?_range hi, Option.map_some, Option.map_some, if_neg (fun e9 => e (Eq.symm e9))]
  · have h1 : ((List.range n).map fun s => Value.bool (f s))[i]? = none := List.getElem?_eq_none (by simp; omega)
    have h2 : ((List.range n).map fun s => Value.bool (if s = k then v else f s))[i]? = none := List.getElem?_eq_none (by simp; omega)
    rw [h1, h2]
    by_cases e : k = i
    · rw [if_pos e, if_neg (by simp; omega)]
    · rw [if_neg e]
theorem GraphAt.setAcc {w : World} {B g b c : Nat} {nv : Value} {T : Tab} (h : GraphAt w B g nv (.slice (some ⟨b, 0, none⟩) T.n c) T) {k : Nat} (v : Bool) :
    GraphAt (w.setCell ⟨b, k, none⟩ (.bool v)) B g nv (.slice (some ⟨b, 0, none⟩) T.n c) ⟨T.n, fun s => if s = k then v else T.acc s, T.nx⟩ := by
  have h1 := h.acc.set k (.bool v)
  rw [bools_set] at h1
  have he : Eff (· = b) w (w.setCell ⟨b, k, none⟩ (.bool v)) := (Eff.refl (· = b) w).setCell (p := ⟨b, k, none⟩) (fun _ => rfl) _
  exact ⟨(he.block g (lt_of_heap h.blk) (fun e => h.acc.ne_type h.blk (by decide) (by rw [e]; rfl))).trans h.blk, h.hg, arr_eff h.next he (fun q hq e => ownsRow_types h.next h.acc (by decide) (show Value.ownBlock (.slice (some ⟨b, 0, none⟩) T.n c) = some b from rfl) (by rw [hq, e])), h1⟩
/-- make([][256]int, n). -/
theorem made_zero (n : Nat) : (madeCells arrZ.cells (n * 256)).toList = flatN (fun _ _ => 0) n := by
  refine List.ext_getElem? fun i => ?_
  have hz : ∀ j, j < 256 → arrZ.cells[j]? = some (.int .i64 0) := fun j hj => by rw [arrZ_cells, List.getElem?_toArray, rowV_get _ hj]; rfl
  have hs : arrZ.cells.size = 256 := by rw [arrZ_cells, List.size_toArray, rowV_length]
  by_cases hi : i < n * 256
  · have e1 := flatN_get (fun _ _ => 0) (n := n) (s := i / 256) (c := i % 256) (by omega) (by omega)
    rw [show i / 256 * 256 + i % 256 = i by omega] at e1
    rw [e1]
    have h9 := hz (i % 256) (by omega)
    have h8 : arrZ.cells[i % 256]! = Value.int .i64 0 := by rw [getElem!_def, h9]
    simp [madeCells, hi, hs, h8]
  · rw [List.getElem?_eq_none (by rw [Array.length_toList, size_madeCells]; omega), List.getElem?_eq_none (by rw [flatN_length]; omega)]
theorem run_make_arr (w : World) (n : Nat) (hn : n ≤ 1000000) (k : Int) (hk : k = n) : (Instr.makeSlice 132 (.int .i64 k) (.int .i64 k)).run Tryd.prog w = .ok (.slice (some ⟨w.heap.size, 0, none⟩) n n) (w.alloc (.cells (flatN (fun _ _ => 0) n).toArray 136)) := by
  subst hk
  obtain ⟨i, hi, h2⟩ := Option.map_eq_some_iff.1 arr_info
  simp only [Prod.mk.injEq] at h2
  obtain ⟨h3, h4, h5⟩ := h2
  have hb : (i.bytes : Int) * (n : Int) ≤ 281474976710656 := by
    have h1 : i.bytes * n ≤ 2048 * 1000000 := Nat.mul_le_mul (by rw [h5]; exact Nat.le_refl _) hn
    have h : ((i.bytes * n : Nat) : Int) ≤ 281474976710656 := by omega
    rwa [Int.natCast_mul] at h
  have hr := run_make (P := Tryd.prog) w 132 136 i arrZ Tryd.underlying132 hi h3 .i64 .i64 n n (by omega) (Int.le_refl _) hb (by omega)
  simp only [Int.toNat_natCast, h4] at hr
  rw [← made_zero]
  exact hr
theorem owns_make_arr (w : World) (n : Nat) (hn : n ≤ 1000000) : (w.alloc (.cells (flatN (fun _ _ => 0) n).toArray 136)).ownsRow w.heap.size 136 256 (.slice (some ⟨w.heap.size, 0, none⟩) n n) n (flatN (fun _ _ => 0) n) := by
  have h := World.ownsRow_lit (e := 136) (size := 256) w (flatN (fun _ _ => 0) n).toArray n (Nat.le_refl _) (by unfold maxLen; omega) (by rw [List.size_toArray, flatN_length])
  rwa [List.toList_toArray] at h
theorem rows_base {w : World} {b b2 size n : Nat} {e : TypeId} {v : Value} {xs : List Value} (h : w.ownsRow b e size v n xs) (hb : b2 ≤ b) : w.ownsRow b2 e size v n xs := by
  refine ⟨h.1, ?_⟩
  rcases h.2 with hn | ⟨g, cap, cur, hv, hg, rest⟩
  · exact .inl hn
  · exact .inr ⟨g, cap, cur, hv, Nat.le_trans hb hg, rest⟩
theorem GraphAt.mono {w : World} {B B2 g : Nat} {nv av : Value} {T : Tab} (h : GraphAt w B g nv av T) (hB : B2 ≤ B) : GraphAt w B2 g nv av T := ⟨h.blk, Nat.le_trans hB h.hg, rows_base h.next hB, own_base h.acc hB⟩
theorem made_bools (n : Nat) : (madeCells #[Value.bool false] n).toList = (List.range n).map fun _ => Value.bool false := by
  rw [toList_madeCells_one]
  exact List.ext_getElem? fun i => by
    by_cases hi : i < n <;> simp [hi]
theorem own_make_bools (w : World) (n : Nat) (hn : n ≤ 1000000) : Own (w.alloc (.cells (madeCells #[Value.bool false] n) 4)) w.heap.size 4 (.slice (some ⟨w.heap.size, 0, none⟩) n n) ((List.range n).map fun _ => Value.bool false) := by
  have hl : (madeCells #[Value.bool false] n).size = n := size_madeCells _ _
  refine .inr ⟨w.heap.size, n, _, by rw [List.length_map, List.length_range], Nat.le_refl _, heap_alloc_new w _, by simp, by rw [hl]; exact Nat.le_refl _, by unfold maxLen; omega, ?_⟩
  rw [made_bools, List.length_map, List.length_range]
  exact List.take_of_length_le (by simp)
/-- ints made. -/
theorem made_ints (n : Nat) : (madeCells #[Value.int .i64 0] n).toList = intsV (fun _ => 0) n := by
  rw [toList_madeCells_one]
  exact List.ext_getElem? fun i => by
    by_cases hi : i < n <;> simp [hi, intsV]
theorem own_make_ints (w : World) (n : Nat) (hn : n ≤ 1000000000) : Own (w.alloc (.cells (madeCells #[Value.int .i64 0] n) 3)) w.heap.size 3 (.slice (some ⟨w.heap.size, 0, none⟩) n n) (intsV (fun _ => 0) n) := by
  have hl : (madeCells #[Value.int .i64 0] n).size = n := size_madeCells _ _
  refine .inr ⟨w.heap.size, n, _, by rw [intsV_length], Nat.le_refl _, heap_alloc_new w _, by rw [intsV_length]; exact Nat.le_refl _, by rw [hl]; exact Nat.le_refl _, by unfold maxLen; omega, ?_⟩
  rw [made_ints, intsV_length]
  exact List.take_of_length_le (by rw [intsV_length]; exact Nat.le_refl _)
theorem intsV_set (f : Nat → Nat) (n k v : Nat) : (intsV f n).set k (.int .i64 ((v : Nat) : Int)) = intsV (fun i => if i = k then v else f i) n := by
  refine List.ext_getElem? fun i => ?_
  rw [List.getElem?_set]
  by_cases hi : i < n
  · rw [intsV_get _ _ _ hi]
    by_cases e : k = i
    · subst e; rw [if_pos rfl, if_pos (by rw [intsV_length]; exact hi), intsV_get _ _ _ hi, if_pos rfl]
    · rw [if_neg e, intsV_get _ _ _ hi, if_neg (fun e9 => e (Eq.symm e9))]
  · have h1 : (intsV f n)[i]? = none := List.getElem?_eq_none (by rw [intsV_length]; omega)
    have h2 : (intsV (fun i => if i = k then v else f i) n)[i]? = none := List.getElem?_eq_none (by rw [intsV_length]; omega)
    rw [h1, h2]
    by_cases e : k = i
    · rw [if_pos e, if_neg (by rw [intsV_length]; omega)]
    · rw [if_neg e]
end Go.Proofs.YtejmjjgbbojfbaaDoor
