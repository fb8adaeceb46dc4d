/- Merged: Graph, StrM, GrA. -/
import Derived.Test.YtejmjjgbbojfbaaDoorZG11
import Derived.Test.YtejmjjgbbojfbaaDoorZG3
import Derived.Laws.OwnMore
import Derived.OwnWalk
import Derived.Deep.WholeRow
import Derived.Deep.MidRow
import Derived.Maps.OwnSet
import Derived.StringKeys
import Derived.Great.BuildSlice
/- auto: a graph in memory: rows of 256 numbers, a list of bools. -/
namespace Go.Proofs.YtejmjjgbbojfbaaDoor
set_option linter.unusedVariables false
open Go.ChangeShapes Go.WideShapes Go.ChangeAt Go.RowKit

/-- Rows of 256 numbers as cells. -/
def flatN (nx : Nat → Nat → Nat) (n : Nat) : List Value := (List.range (n * 256)).map fun j => .int .i64 ((nx (j / 256) (j % 256) : Nat) : Int)
theorem flatN_length (nx : Nat → Nat → Nat) (n : Nat) : (flatN nx n).length = n * 256 := by simp [flatN]
theorem flatN_get (nx : Nat → Nat → Nat) {n s c : Nat} (hs : s < n) (hc : c < 256) : (flatN nx n)[s * 256 + c]? = some (.int .i64 ((nx s c : Nat) : Int)) := by
  unfold flatN
  rw [List.getElem?_map, List.getElem?_range (by omega)]
  simp only [Option.map_some]
  rw [show (s * 256 + c) / 256 = s by omega, show (s * 256 + c) % 256 = c by omega]
theorem flatN_congr {nx nx2 : Nat → Nat → Nat} {n : Nat} (h : ∀ s c, s < n → c < 256 → nx s c = nx2 s c) : flatN nx n = flatN nx2 n := by
  unfold flatN
  refine List.map_congr_left fun j hj => ?_
  have := List.mem_range.1 hj
  rw [h _ _ (by omega) (by omega)]
theorem flatN_snoc (nx : Nat → Nat → Nat) (n : Nat) : flatN nx (n + 1) = flatN nx n ++ (List.range 256).map fun c => .int .i64 ((nx n c : Nat) : Int) := by
  refine List.ext_getElem? fun j => ?_
  by_cases h1 : j < n * 256
  · rw [List.getElem?_append_left (by rw [flatN_length]; exact h1)]
    have e := flatN_get nx (n := n + 1) (s := j / 256) (c := j % 256) (by omega) (by omega)
    have e2 := flatN_get nx (n := n) (s := j / 256) (c := j % 256) (by omega) (by omega)
    rw [show j / 256 * 256 + j % 256 = j by omega] at e e2
    rw [e, e2]
  · rw [List.getElem?_append_right (by rw [flatN_length]; omega), flatN_length]
    by_cases h2 : j < (n + 1) * 256
    · have e := flatN_get nx (n := n + 1) (s := n) (c := j - n * 256) (by omega) (by omega)
      rw [show n * 256 + (j - n * 256) = j by omega] at e
      rw [e, List.getElem?_map, List.getElem?_range (by omega)]
      rfl
    · rw [List.getElem?_eq_none (by rw [flatN_length]; omega), List.getElem?_eq_none (by simp; omega)]
/-- A graph at block g. -/
structure GraphAt (w : World) (B g : Nat) (nv av : Value) (T : Tab) : Prop where
  blk : w.heap[g]? = some (.cells #[nv, av] 134 (0, 0))
  hg : B ≤ g
  next : w.ownsRow B 136 256 nv T.n (flatN T.nx T.n)
  acc : Own w B 4 av ((List.range T.n).map fun s => .bool (T.acc s))
theorem arr_eff {F : Nat → Prop} {w w' : World} {B n : Nat} {v : Value} {xs : List Value} {t : TypeId} {s : Nat} (h : w.ownsRow B t s v n xs) (e : Eff F w w') (hF : ∀ k, v.ownBlock = some k → ¬ F k) : w'.ownsRow B t s v n xs := by
  refine ⟨h.1, ?_⟩
  rcases h.2 with hn | ⟨g, cap, cur, rfl, hb, hgg, rest⟩
  · exact .inl hn
  · exact .inr ⟨g, cap, cur, rfl, hb, (e.block g (lt_of_heap hgg) (hF g rfl)).trans hgg, rest⟩
theorem GraphAt.eff {F : Nat → Prop} {w w' : World} {B g : Nat} {nv av : Value} {T : Tab} (h : GraphAt w B g nv av T) (e : Eff F w w') (hF : ∀ k, k < w.heap.size → B ≤ k → ¬ F k) : GraphAt w' B g nv av T :=
  ⟨(e.block g (lt_of_heap h.blk) (hF g (lt_of_heap h.blk) h.hg)).trans h.blk, h.hg, arr_eff h.next e (fun k hk => by have := World.ownsRow.lt h.next k hk; exact hF k this.2 this.1), h.acc.eff e (fun k hk => by have := h.acc.lt k hk; exact hF k this.2 this.1)⟩
theorem GraphAt.below {w w' : World} {B B' g : Nat} {nv av : Value} {T : Tab} (h : GraphAt w B g nv av T) (hb : Below B' w w') (hB : w.heap.size ≤ B') : GraphAt w' B g nv av T :=
  h.eff (F := fun k => B' ≤ k) ⟨hb.os, hb.tape, hb.output, hb.size, fun k hk hn => hb.block k (by omega)⟩ (fun k hk _ => by omega)
/-- Where a state goes. -/
theorem GraphAt.at_ {w : World} {B g : Nat} {nv av : Value} {T : Tab} (h : GraphAt w B g nv av T) : ∃ a c, nv = .slice a T.n c ∧ T.n ≤ c ∧ (0 < T.n → ∃ b, a = some ⟨b, 0, none⟩ ∧ ∀ s c, s < T.n → c < 256 → w.cell? ⟨b, s * 256 + c, none⟩ = some (.int .i64 ((T.nx s c : Nat) : Int))) := by
  rcases h.next.2 with ⟨e, h0⟩ | ⟨b, cap, cur, e, hb, hg, hn, _⟩
  · exact ⟨none, 0, by rw [e, h0], by omega, fun h9 => by omega⟩
  · refine ⟨_, _, e, hn, fun _ => ⟨b, rfl, fun s c hs hc => ?_⟩⟩
    have h9 := World.ownsRow.cells h.next (g := b) (by rw [e]; rfl) _ _ (flatN_get T.nx hs hc)
    rw [addr_add, Nat.zero_add] at h9
    exact h9
/-- One row as a value. -/
def rowV (f : Nat → Nat) : List Value := (List.range 256).map fun c => .int .i64 ((f c : Nat) : Int)
theorem rowV_length (f : Nat → Nat) : (rowV f).length = 256 := by simp [rowV]
theorem rowV_get (f : Nat → Nat) {c : Nat} (hc : c < 256) : (rowV f)[c]? = some (.int .i64 ((f c : Nat) : Int)) := by simp [rowV, hc]
theorem rowV_one (f : Nat → Nat) : ∀ u ∈ rowV f, u.oneCell' = true := by
  intro u hu
  obtain ⟨k, _, rfl⟩ := List.mem_map.1 hu
  rfl
theorem rowV_congr {f g : Nat → Nat} (h : ∀ c, c < 256 → f c = g c) : rowV f = rowV g := by
  unfold rowV
  exact List.map_congr_left fun c hc => by rw [h c (List.mem_range.1 hc)]
/-- A row that is being filled: k numbers, then noughts. -/
def rowK (f : Nat → Nat) (k : Nat) : Nat → Nat := fun c => if c < k then f c else 0
theorem rowK_zero (f : Nat → Nat) : rowV (rowK f 0) = List.replicate 256 (.int .i64 0) := by
  refine List.ext_getElem? fun j => ?_
  by_cases hj : j < 256
  · rw [rowV_get _ hj, List.getElem?_replicate, if_pos hj]; rfl
  · rw [List.getElem?_eq_none (by rw [rowV_length]; omega), List.getElem?_eq_none (by rw [List.length_replicate]; omega)]
theorem rowK_full (f : Nat → Nat) : rowV (rowK f 256) = rowV f := rowV_congr fun c hc => by unfold rowK; rw [if_pos hc]
theorem rowK_set (f : Nat → Nat) (k : Nat) : (rowV (rowK f k)).set k (.int .i64 ((f k : Nat) : Int)) = rowV (rowK f (k + 1)) := by
  refine List.ext_getElem? fun j => ?_
  by_cases hj : j < 256
  · rw [List.getElem?_set, rowV_get (rowK f (k + 1)) hj]
    by_cases e : k = j
    · subst e
      rw [if_pos rfl, if_pos (by rw [rowV_length]; exact hj)]
      simp [rowK]
    · rw [if_neg e, rowV_get _ hj]
      unfold rowK
      by_cases h1 : j < k
      · rw [if_pos h1, if_pos (by omega)]
      · rw [if_neg h1, if_neg (by omega)]
  · rw [List.getElem?_eq_none (by rw [List.length_set, rowV_length]; omega), List.getElem?_eq_none (by rw [rowV_length]; omega)]
/-- The zero row. -/
def arrZ : Value := .agg (Array.replicate 256 (.int .i64 0))
theorem arr_info : (Tryd.prog.info? 136).map (fun i => (i.zero, i.size, i.bytes)) = some (some arrZ, 256, 2048) := by kernel_rfl
theorem arr_zero (w : World) : (zeroValue 136).run Tryd.prog w = .ok arrZ w :=
  (zero_of_info (n := 256) (by obtain ⟨i, h1, h2⟩ := Option.map_eq_some_iff.1 arr_info; rw [h1]; simp only [Prod.mk.injEq] at h2; simp [h2.1, h2.2.1])).1 w
theorem arr_size : (Tryd.prog.info? 136).map (·.size) = some 256 := by
  obtain ⟨i, h1, h2⟩ := Option.map_eq_some_iff.1 arr_info; rw [h1]; simp only [Prod.mk.injEq] at h2; simp [h2.2.1]
theorem arrZ_cells : arrZ.cells = (rowV (rowK (fun _ => 0) 0)).toArray := by
  rw [rowK_zero, List.toArray_replicate]; rfl
theorem arr_zeroK (f : Nat → Nat) (w : World) : (zeroValue 136).run Tryd.prog w = .ok (.agg (rowV (rowK f 0)).toArray) w := by
  rw [arr_zero, rowK_zero, List.toArray_replicate]; rfl
theorem run_load_arr {w : World} {b o : Nat} {f : Nat → Nat} (h : w.rangeAt b o (rowV f)) : (Instr.loadAt 136 (.pointer (some ⟨b, o, none⟩))).run Tryd.prog w = .ok (.agg (rowV f).toArray) w :=
  run_loadAt_mid w b o 136 (rowV f) _ h Tryd.underlying136 rfl (by rw [rowV_length]; exact arr_size)
theorem run_index_arr (w : World) (f : Nat → Nat) {c : Nat} (hc : c < 256) : (Instr.index 136 (.agg (rowV f).toArray) (.int .i64 (c : Nat))).run Tryd.prog w = .ok (.int .i64 ((f c : Nat) : Int)) w := by
  have h1 : (rowV f).toArray[c]? = some (.int .i64 ((f c : Nat) : Int)) := by rw [List.getElem?_toArray]; exact rowV_get f hc
  have h2 : (rowV f).toArray.size = 256 := by rw [List.size_toArray, rowV_length]
  simp [Instr.index, run_underlying Tryd.underlying136, asIntOf, hc, rowV_get f hc, go_sem]
end Go.Proofs.YtejmjjgbbojfbaaDoor

/- A map from texts to numbers that the call has made, as a function. -/
namespace Go.Proofs.YtejmjjgbbojfbaaDoor
set_option linter.unusedVariables false
open Go.ChangeShapes Go.WideShapes Go.ChangeAt Go.RowKit Go.Maps

theorem strK : Keyed Tryd.prog 9 := string_keyed Tryd.underlying9
theorem strKey {s : ByteArray} (hs : s.size ≤ maxLen) : keyOf Tryd.prog 9 (.string s) = some (.string s.data.toList) := Go.WideMaps.keyOf_string_mk Tryd.underlying9 hs
theorem str_inj {s t : ByteArray} (h : Lit.string s.data.toList = Lit.string t.data.toList) : s = t := by
  injection h with h
  cases s with | mk a => cases t with | mk b => exact congrArg ByteArray.mk (Array.ext' h)
/-- Block b is a map of n texts; each text's number, if it has one, is below m. -/
def StrMap (w : World) (b n m : Nat) (f : ByteArray → Option Nat) : Prop :=
  ∃ (D : DataW Unit) (k : Nat), w.ownsMap Tryd.prog 9 (plainElem Tryd.prog 3) b k D ∧ k ≤ n ∧ Maps.size D = n ∧ (∀ s, Maps.has D (.string s.data.toList) = (f s).isSome) ∧
    ∀ s v, f s = some v → v < m ∧ ∀ z, D.atKey (.string s.data.toList) z = .lit (.int .i64 (v : Nat))
theorem StrMap.made (w : World) (m : Nat) : StrMap (w.alloc (.map #[] 0)) w.heap.size 0 m (fun _ => none) :=
  ⟨.map [], 0, World.ownsMap_made w _ _ _, Nat.le_refl _, rfl, fun s => rfl, fun s v h => by cases h⟩
theorem StrMap.lt {w : World} {b n m : Nat} {f : ByteArray → Option Nat} (h : StrMap w b n m f) : b < w.heap.size := by
  obtain ⟨D, k, h1, _⟩ := h
  exact h1.lt
theorem StrMap.grown {w w' : World} {b n m : Nat} {f : ByteArray → Option Nat} {row : Option Nat} (h : StrMap w b n m f) (hg : w.grownBy w' row) (hne : some b ≠ row) : StrMap w' b n m f := by
  obtain ⟨D, k, h1, h2⟩ := h
  exact ⟨D, k, h1.kept hg hne, h2⟩
theorem StrMap.eff {F : Nat → Prop} {w w' : World} {b n m : Nat} {f : ByteArray → Option Nat} (h : StrMap w b n m f) (e : Eff F w w') (hF : ¬ F b) : StrMap w' b n m f := by
  obtain ⟨D, k, h1, h2⟩ := h
  have hlt := h1.lt
  obtain ⟨es, clock, hb, r⟩ := h1
  exact ⟨D, k, ⟨es, clock, (e.block b hlt hF).trans hb, r⟩, h2⟩
theorem StrMap.below {B : Nat} {w w' : World} {b n m : Nat} {f : ByteArray → Option Nat} (h : StrMap w b n m f) (hb : Below B w w') (hB : w.heap.size ≤ B) : StrMap w' b n m f :=
  h.eff (F := fun k => B ≤ k) ⟨hb.os, hb.tape, hb.output, hb.size, fun k hk hn => hb.block k (by omega)⟩ (by have := h.lt; omega)
/-- A map is no row. -/
theorem StrMap.ne {w : World} {b n m : Nat} {f : ByteArray → Option Nat} (h : StrMap w b n m f) {g : Nat} {cs : Array Value} {t : TypeId} {fr : Nat × Nat} (hg : w.heap[g]? = some (.cells cs t fr)) : b ≠ g := fun e => by
  obtain ⟨D, k, ⟨es, clock, hb, _⟩, _⟩ := h
  subst e
  rw [hb] at hg
  injection hg with hg
  cases hg
theorem StrMap.mono {w : World} {b n m m' : Nat} {f : ByteArray → Option Nat} (h : StrMap w b n m f) (hm : m ≤ m') : StrMap w b n m' f := by
  obtain ⟨D, k, h1, h2, h3, h4, h5⟩ := h
  exact ⟨D, k, h1, h2, h3, h4, fun s v hv => ⟨Nat.lt_of_lt_of_le (h5 s v hv).1 hm, (h5 s v hv).2⟩⟩
set_option maxRecDepth 100000 in
/-- v, ok := m[s]. -/
theorem mp_look {w : World} {b n m : Nat} {f : ByteArray → Option Nat} (h : StrMap w b n m f) (s : ByteArray) (hs : s.size ≤ maxLen)
    {ops : Array Oper} {rest : List Oper} {o : Oper} {a : Act} {Q : Exit → Act → World → Prop} (hgd : o.guard = none) (x y : Operand) (t : TypeId) (hop : o.op = Op.lookup t x y true) (ht : Tryd.prog.underlying t = some (.map 9 3)) (hz : (zeroValue 3).run Tryd.prog w = .ok (.int .i64 0) w)
    (hx : a.eval x = .map (some b)) (hy : a.eval y = .string s)
    (hK : wpList Tryd.prog ops Q rest (a.put o.dst (.tuple #[.int .i64 (((f s).getD 0 : Nat) : Int), .bool (f s).isSome])) w) : wpList Tryd.prog ops Q (o :: rest) a w := by
  obtain ⟨D, k, h1, h2, h3, h4, h5⟩ := h
  refine wpList_lookup_own_ok_int (H := Unit) w hgd x y t hop 9 3 .i64 strK ht Tryd.underlying3 hz b k D hx h1 (.string s) (.string s.data.toList) hy (strKey hs) (fun c hc _ => ?_)
  rw [h4 s]
  have hc2 : c = (((f s).getD 0 : Nat) : Int) := by
    cases hf : f s with
    | none =>
      have h9 : Maps.has D (.string s.data.toList) = false := by rw [h4 s, hf]; rfl
      rw [Maps.atKey_of_not_has h9] at hc
      injection hc with hc
      injection hc with _ hc
      rw [← hc]; rfl
    | some v =>
      rw [(h5 s v hf).2] at hc
      injection hc with hc
      injection hc with _ hc
      rw [← hc]; rfl
  rw [hc2]
  exact hK
set_option maxRecDepth 100000 in
/-- m[s] = v, of a text that is not there yet. -/
theorem mp_put {w : World} {b n m : Nat} {f : ByteArray → Option Nat} (h : StrMap w b n m f) (hn : n < 1000000000) (s : ByteArray) (hs : s.size ≤ maxLen) (hno : f s = none) (v : Nat) (hv : v < m) (hvb : v ≤ 1000000000)
    {ops : Array Oper} {rest : List Oper} {o : Oper} {a : Act} {Q : Exit → Act → World → Prop} (hgd : o.guard = none) (x y z : Operand) (t : TypeId) (hop : o.op = Op.mapUpdate t x y z) (ht : Tryd.prog.underlying t = some (.map 9 3))
    (hx : a.eval x = .map (some b)) (hy : a.eval y = .string s) (hz : a.eval z = .int .i64 (v : Nat))
    (hK : ∀ w', StrMap w' b (n + 1) m (fun u => if u = s then some v else f u) → w.grownBy w' (some b) → wpList Tryd.prog ops Q rest (a.put o.dst undef) w') : wpList Tryd.prog ops Q (o :: rest) a w := by
  obtain ⟨D, k, h1, h2, h3, h4, h5⟩ := h
  refine wpList_mapUpdate_own (H := Unit) w hgd x y z t hop 9 3 strK ht _ b k D hx h1 (by unfold maxLen; omega) (.string s) (.int .i64 (v : Nat)) (.string s.data.toList) hy hz (strKey hs) (.lit (.int .i64 (v : Nat))) [] (plainElem_int Tryd.underlying3 (WalkArith.wf_i64 (by omega))) (fun w' g1 g2 => ?_)
  refine hK w' ⟨_, k + 1, g1, by omega, ?_, fun u => ?_, fun u y hu => ?_⟩ g2
  · rw [Maps.size_put (h1.tidy strK), h4 s, hno, h3]; rfl
  · show Maps.has _ _ = (if u = s then some v else f u).isSome
    by_cases e : u = s
    · subst e
      rw [if_pos rfl, Maps.has_put_same h1.isMap (by trivial)]; rfl
    · rw [if_neg e, Maps.has_put_other (fun e9 => e (str_inj e9))]
      exact h4 u
  · have hu : (if u = s then some v else f u) = some y := hu
    by_cases e : u = s
    · subst e
      rw [if_pos rfl] at hu
      injection hu with hu
      subst hu
      exact ⟨hv, fun z => Maps.atKey_put_same h1.isMap (by trivial) _ _⟩
    · rw [if_neg e] at hu
      exact ⟨(h5 u y hu).1, fun z => by rw [Maps.atKey_put_other (fun e9 => e (str_inj e9))]; exact (h5 u y hu).2 z⟩
/-- len(m). -/
theorem mp_len {w : World} {b n m : Nat} {f : ByteArray → Option Nat} (h : StrMap w b n m f)
    {ops : Array Oper} {rest : List Oper} {o : Oper} {a : Act} {Q : Exit → Act → World → Prop} (hgd : o.guard = none) (x : Operand) (t : TypeId) (hop : o.op = Op.call { callee := Callee.builtin Builtin.len, args := #[x], argTypes := #[t] }) (ht : Tryd.prog.underlying t = some (.map 9 3))
    (hx : a.eval x = .map (some b)) (hK : wpList Tryd.prog ops Q rest (a.put o.dst (.int .i64 (n : Nat))) w) : wpList Tryd.prog ops Q (o :: rest) a w := by
  obtain ⟨D, k, h1, h2, h3, h4, h5⟩ := h
  refine wpList_len_own (H := Unit) w hgd x t hop 9 3 ht _ b k D hx h1 ?_
  rw [h3]; exact hK
end Go.Proofs.YtejmjjgbbojfbaaDoor

/- auto: a graph in memory: a row more, a bool more; what a change elsewhere leaves. -/
namespace Go.Proofs.YtejmjjgbbojfbaaDoor
set_option linter.unusedVariables false
open Go.ChangeShapes Go.WideShapes Go.ChangeAt Go.RowKit

theorem elStrG : Elem Tryd.prog 38 9 (.string ⟨#[]⟩) 16 := ⟨Tryd.underlying38, by kernel_rfl, rfl, by decide⟩
theorem elBoolG : Elem Tryd.prog 51 4 (.bool false) 1 := ⟨Tryd.underlying51, by kernel_rfl, rfl, by decide⟩
theorem elIntG : Elem Tryd.prog 52 3 (.int .i64 0) 8 := ⟨Tryd.underlying52, by kernel_rfl, rfl, by decide⟩
theorem rowV_size (f : Nat → Nat) : (Tryd.prog.info? 136).map (·.size) = some (rowV f).toArray.size := by rw [List.size_toArray, rowV_length]; exact arr_size
theorem rowV_sz (f : Nat → Nat) : (Tryd.prog.info? 136).map (·.size) = some (rowV f).length := by rw [rowV_length]; exact arr_size
theorem rowV_all (f : Nat → Nat) : (rowV f).toArray.all (·.oneCell') = true := by
  rw [Array.all_eq_true_iff_forall_mem]
  intro v hv
  exact rowV_one f v (by simpa using hv)
/-- row := next[s]: the row loaded, laid into a variable of its own. -/
theorem wp_row_var {w : World} (f : Nat → Nat) {ops : Array Oper} {rest : List Oper} {o : Oper} {a : Act} {Q : Exit → Act → World → Prop} (hgd : o.guard = none) (x y : Operand) (ho : o.op = .store 136 x y) (hx : a.eval x = .pointer (some ⟨w.heap.size, 0, none⟩)) (hy : a.eval y = .agg (rowV f).toArray)
    (h : wpList Tryd.prog ops Q rest (a.put o.dst undef) (w.alloc (.cells (rowV f).toArray 136))) : wpList Tryd.prog ops Q (o :: rest) a (w.alloc (.cells (rowV (rowK f 0)).toArray 136)) := by
  refine wpList_store_row hgd 136 x y ho w.heap.size (rowV f).toArray hx hy 136 (rowV (rowK f 0)).toArray (heap_alloc_new w _) (rowV_size f) (by rw [List.size_toArray, List.size_toArray, rowV_length, rowV_length]) (rowV_all f) ?_
  rw [World.setRow_alloc_new]
  exact h
theorem wp_row_load {w : World} {b o : Nat} {f : Nat → Nat} (hr : w.rangeAt b o (rowV f)) {ops : Array Oper} {rest : List Oper} {op : Oper} {a : Act} {Q : Exit → Act → World → Prop} (hgd : op.guard = none) (x : Operand) (ho : op.op = .load 136 x) (hx : a.eval x = .pointer (some ⟨b, o, none⟩))
    (h : wpList Tryd.prog ops Q rest (a.put op.dst (.agg (rowV f).toArray)) w) : wpList Tryd.prog ops Q (op :: rest) a w :=
  wpList_load_mid hgd 136 x ho b o hx (rowV f) _ hr Tryd.underlying136 rfl (rowV_sz f) h
theorem fill_one {s : Nat} (hs : 0 < s) (r cells : Array Value) (h : r.size = s) (hc : s = cells.size) : Instr.fill (fun i => some (i * s, s)) cells [(0, .agg r)] = some r := by
  have h9 := Great.fill_whole hs [.agg r] cells (fun v hv => by rw [List.mem_singleton.1 hv]; exact h) (by rw [List.length_singleton, Nat.one_mul]; exact hc)
  have e : (([Value.agg r].flatMap fun v => v.cells.toList).toArray) = r := by
    rw [List.flatMap_cons, List.flatMap_nil, List.append_nil]; rfl
  rw [e] at h9
  exact h9
theorem run_buildSlice_arr (w : World) (f : Nat → Nat) : (Instr.buildSlice 132 1 #[(0, .agg (rowV f).toArray)]).run Tryd.prog w = .ok (.slice (some ⟨w.heap.size, 0, none⟩) 1 1) (w.alloc (.cells (rowV f).toArray 136)) := by
  obtain ⟨i, hi, h2⟩ := Option.map_eq_some_iff.1 arr_info
  simp only [Prod.mk.injEq] at h2
  obtain ⟨h3, h4, h5⟩ := h2
  have hr : (rowV f).toArray.size = 256 := by rw [List.size_toArray, rowV_length]
  generalize (rowV f).toArray = r at hr ⊢
  refine run_buildSlice w 132 136 1 _ _ i arrZ Tryd.underlying132 hi h3 (by rw [h4]; decide) (by rw [h4]; decide) ?_
  rw [h4]
  exact fill_one (by decide) r _ hr (by rw [Array.size_map, Array.size_range])
/-- append(next, row), the row in a new block of its own. -/
theorem run_ap_arr {w0 : World} {base n : Nat} {v : Value} {xs : List Value} (ty : TypeId) (f : Nat → Nat) (hown : w0.ownsRow base 136 256 v n xs) (hn : n ≤ 1000000) (hb : base ≤ w0.heap.size) :
    ∃ v' w', (Builtin.append_ #[132, 132] ty #[v, .slice (some ⟨w0.heap.size, 0, none⟩) 1 1]).run Tryd.prog (w0.alloc (.cells (rowV f).toArray 136)) = .ok v' w' ∧ w'.ownsRow base 136 256 v' (n + 1) (xs ++ rowV f) ∧ w0.grownBy w' v.ownBlock := by
  obtain ⟨i, hi, h2⟩ := Option.map_eq_some_iff.1 arr_info
  simp only [Prod.mk.injEq] at h2
  obtain ⟨h3, h4, h5⟩ := h2
  obtain ⟨v', w', h6, h7, h8, _⟩ := run_append_own (P := Tryd.prog) (w0.alloc (.cells (rowV f).toArray 136)) base 132 ty 136 i arrZ 256 2048 Tryd.underlying132 hi h3 h4 h5 (by rw [arrZ_cells, List.size_toArray, rowV_length]) (by decide) v n xs (hown.alloc _)
    ⟨w0.heap.size, 0, none⟩ 1 1 (rowV f) (by rw [rowV_length]) (fun j u hu => by
      rw [addr_add, Nat.zero_add, cell_of_row _ _ _ _ _ _ (heap_alloc_new w0 _), List.getElem?_toArray]; exact hu) (rowV_one f) (by unfold maxLen; omega) (by omega) (by simp; omega)
  refine ⟨v', w', h6, h7, ⟨h8.os, h8.tape, h8.output, Nat.le_trans (by simp) h8.size, fun k hk hne => (h8.block k (by simp; omega) hne).trans (Below.heap_alloc _ _ _ hk)⟩⟩
theorem step_ap_arr {w0 : World} {base n : Nat} {v : Value} {xs : List Value} (f : Nat → Nat) (hown : w0.ownsRow base 136 256 v n xs) (hn : n ≤ 1000000) (hb : base ≤ w0.heap.size)
    {ops : Array Oper} {o : Oper} {a : Act} {K : Act → World → Prop} {Q : Exit → Act → World → Prop} {F : Prop} (hgd : o.guard = none) (x y : Operand)
    (ho : o.op = .call { callee := .builtin .append, args := #[x, y], argTypes := #[132, 132] }) (hx : a.eval x = v) (hy : a.eval y = .slice (some ⟨w0.heap.size, 0, none⟩) 1 1)
    (h : ∀ v' w', w'.ownsRow base 136 256 v' (n + 1) (xs ++ rowV f) → w0.grownBy w' v.ownBlock → K (a.put o.dst v') w') :
    if Region.wanted o (yielded ops a.tmps) = true then Oper.wp Tryd.prog o a (w0.alloc (.cells (rowV f).toArray 136)) K Q else F := by
  rw [if_pos (by simp [Region.wanted, hgd])]
  obtain ⟨v', w', hr, k2, k3⟩ := run_ap_arr o.type f hown hn hb
  unfold Oper.wp execOp
  simp only [ho, resolve, invoke, builtin, Sem.run_bind, Sem.run_pure, Result.andThen_ok, List.map_toArray, List.map_cons, List.map_nil, hx, hy, hr]
  exact h v' w' k2 k3
theorem step_build_arr {w : World} (f : Nat → Nat) {ops : Array Oper} {o : Oper} {a : Act} {K : Act → World → Prop} {Q : Exit → Act → World → Prop} {F : Prop} (hgd : o.guard = none) (x : Operand)
    (ho : o.op = .buildSlice 132 1 #[(0, x)]) (hx : a.eval x = .agg (rowV f).toArray) (h : K (a.put o.dst (.slice (some ⟨w.heap.size, 0, none⟩) 1 1)) (w.alloc (.cells (rowV f).toArray 136))) :
    if Region.wanted o (yielded ops a.tmps) = true then Oper.wp Tryd.prog o a w K Q else F := by
  rw [if_pos (by simp [Region.wanted, hgd])]
  have hr := run_buildSlice_arr w f
  unfold Oper.wp execOp
  simp only [ho, Sem.run_bind, Sem.run_pure, Result.andThen_ok, List.map_toArray, List.map_cons, List.map_nil, hx, hr]
  exact h
theorem ownsRow_sl {w : World} {b size n : Nat} {e : TypeId} {v : Value} {xs : List Value} (h : w.ownsRow b e size v n xs) : ∃ a c, v = .slice a n c := by
  rcases h.2 with ⟨rfl, h0⟩ | ⟨g, cap, cur, hv, _⟩
  · exact ⟨none, 0, by rw [h0]⟩
  · exact ⟨_, _, hv⟩
theorem ownsRow_ne {w : World} {b size n : Nat} {e : TypeId} {v : Value} {xs : List Value} {g : Nat} {cs : Array Value} {t : TypeId} {fr : Nat × Nat} (h : w.ownsRow b e size v n xs) (hg : w.heap[g]? = some (.cells cs t fr)) (hne : e ≠ t) : v.ownBlock ≠ some g := by
  rcases h.2 with ⟨rfl, _⟩ | ⟨g', cap, cur, rfl, _, hh, _⟩
  · simp [Value.ownBlock]
  · intro he
    have he' : g' = g := by simpa [Value.ownBlock] using he
    subst he'
    rw [hh] at hg
    injection hg with hg
    injection hg with _ ht
    exact hne ht
theorem ownsRow_types {w : World} {b b' size n : Nat} {e e' : TypeId} {v v' : Value} {xs xs' : List Value} (h : w.ownsRow b e size v n xs) (h' : Own w b' e' v' xs') (hne : e ≠ e') {k : Nat} (hk : v'.ownBlock = some k) : v.ownBlock ≠ some k := by
  rcases h' with ⟨rfl, _⟩ | ⟨g', cap, cur, rfl, _, hh, _⟩
  · simp [Value.ownBlock] at hk
  · have he' : g' = k := by simpa [Value.ownBlock] using hk
    subst he'
    exact ownsRow_ne h hh hne
theorem StrMap.ne_own {w : World} {b n m : Nat} {f : ByteArray → Option Nat} (h : StrMap w b n m f) {base : Nat} {e : TypeId} {v : Value} {xs : List Value} (ho : Own w base e v xs) : v.ownBlock ≠ some b := by
  rcases ho with ⟨rfl, _⟩ | ⟨g', cap, cur, rfl, _, hh, _⟩
  · simp [Value.ownBlock]
  · intro he
    have he' : g' = b := by simpa [Value.ownBlock] using he
    exact h.ne hh he'.symm
theorem StrMap.ne_row {w : World} {b n m : Nat} {f : ByteArray → Option Nat} (h : StrMap w b n m f) {base k size : Nat} {e : TypeId} {v : Value} {xs : List Value} (ho : w.ownsRow base e size v k xs) : v.ownBlock ≠ some b := by
  rcases ho.2 with ⟨rfl, _⟩ | ⟨g', cap, cur, rfl, _, hh, _⟩
  · simp [Value.ownBlock]
  · intro he
    have he' : g' = b := by simpa [Value.ownBlock] using he
    exact h.ne hh he'.symm
theorem GraphAt.eff' {F : Nat → Prop} {w w' : World} {B g : Nat} {nv av : Value} {T : Tab} (h : GraphAt w B g nv av T) (e : Eff F w w') (h1 : ¬ F g) (h2 : ∀ k, nv.ownBlock = some k → ¬ F k) (h3 : ∀ k, av.ownBlock = some k → ¬ F k) : GraphAt w' B g nv av T :=
  ⟨(e.block g (lt_of_heap h.blk) h1).trans h.blk, h.hg, arr_eff h.next e h2, h.acc.eff e h3⟩
theorem Eff.ofGrown {w w' : World} {r : Option Nat} (h : w.grownBy w' r) : Eff (fun k => r = some k) w w' := (Eff.refl _ w).grown h (fun i hi _ => hi)
/-- A row of the graph as a range of cells. -/
theorem GraphAt.range {w : World} {B g : Nat} {nv av : Value} {T : Tab} (h : GraphAt w B g nv av T) {s : Nat} (hs : s < T.n) : ∃ b c, nv = .slice (some ⟨b, 0, none⟩) T.n c ∧ T.n ≤ c ∧ B ≤ b ∧ b < w.heap.size ∧ w.rangeAt b (s * 256) (rowV (T.nx s)) := by
  obtain ⟨a, c, rfl, hc, h9⟩ := h.at_
  obtain ⟨b, rfl, h8⟩ := h9 (by omega)
  have h7 := World.ownsRow.lt h.next b rfl
  refine ⟨b, c, rfl, hc, h7.1, h7.2, fun j v hj => ?_⟩
  have hlt : j < 256 := by have := (List.getElem?_eq_some_iff.1 hj).1; rwa [rowV_length] at this
  rw [rowV_get _ hlt] at hj
  rw [← Option.some.inj hj]
  exact h8 s j hs hlt
/-- The list of bools. -/
theorem GraphAt.accAt {w : World} {B g : Nat} {nv av : Value} {T : Tab} (h : GraphAt w B g nv av T) : ∃ a c, av = .slice a T.n c ∧ T.n ≤ c ∧ (0 < T.n → ∃ b, a = some ⟨b, 0, none⟩ ∧ B ≤ b ∧ b < w.heap.size ∧ ∀ s, s < T.n → w.cell? ⟨b, s, none⟩ = some (.bool (T.acc s))) := by
  rcases h.acc.shape with ⟨hv, h0⟩ | ⟨b, cap, hv, h1, h2, h3, h4, h5⟩
  · have : T.n = 0 := by simpa using h0
    exact ⟨none, 0, by rw [hv, this], by omega, fun h9 => by omega⟩
  · rw [List.length_map, List.length_range] at hv h3
    exact ⟨_, cap, hv, h3, fun _ => ⟨b, rfl, h1, h2, fun s hs => h5 s _ (by simp [hs])⟩⟩
end Go.Proofs.YtejmjjgbbojfbaaDoor
