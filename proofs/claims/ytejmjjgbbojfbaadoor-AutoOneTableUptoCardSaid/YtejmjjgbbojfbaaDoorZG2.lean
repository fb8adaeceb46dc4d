/- Merged: TabK, El, Graph. -/
import Derived.Test.YtejmjjgbbojfbaaDoorZTabM
import Derived.Test.YtejmjjgbbojfbaaDoorZLib
import Derived.Test.YtejmjjgbbojfbaaDoorProg
import Derived.Laws.OwnMore
import Derived.OwnWalk
import Derived.Deep.WholeRow
import Derived.Deep.MidRow
/- auto, plain: numbers handed out in the order of first meeting; keys of classes; columns. No program occurs here. -/
namespace Go.Proofs.YtejmjjgbbojfbaaDoor
set_option linter.unusedVariables false

/-- The number of a text in a list of texts met. -/
def idxF {α : Type} [BEq α] [LawfulBEq α] [DecidableEq α] (l : List α) (x : α) : Option Nat := if x ∈ l then some (l.idxOf x) else none
theorem idxF_some {α : Type} [BEq α] [LawfulBEq α] [DecidableEq α] {l : List α} {x : α} {i : Nat} (h : idxF l x = some i) : ∃ h : i < l.length, l[i] = x := by
  unfold idxF at h
  split at h
  · next hx =>
    injection h with h
    subst h
    have hl := List.idxOf_lt_length_of_mem hx
    exact ⟨hl, List.getElem_idxOf hl⟩
  · cases h
theorem idxF_none {α : Type} [BEq α] [LawfulBEq α] [DecidableEq α] {l : List α} {x : α} (h : idxF l x = none) : x ∉ l := by
  unfold idxF at h
  split at h
  · cases h
  · assumption
theorem idxF_snoc {α : Type} [BEq α] [LawfulBEq α] [DecidableEq α] {l : List α} {x : α} (h : x ∉ l) : (fun u => if u = x then some l.length else idxF l u) = idxF (l ++ [x]) := by
  funext u
  unfold idxF
  by_cases e : u = x
  · subst e
    rw [if_pos rfl, if_pos (by simp), List.idxOf_append, if_neg h]
    simp
  · rw [if_neg e]
    by_cases hu : u ∈ l
    · rw [if_pos hu, if_pos (List.mem_append_left _ hu), List.idxOf_append, if_pos hu]
    · rw [if_neg hu, if_neg]
      intro h9
      rcases List.mem_append.1 h9 with h9 | h9
      · exact hu h9
      · exact e (List.mem_singleton.1 h9)
theorem idxF_nil {α : Type} [BEq α] [LawfulBEq α] [DecidableEq α] : (fun _ => none) = idxF ([] : List α) := by
  funext u; unfold idxF; rw [if_neg (by simp)]
theorem idxF_inj {α : Type} [BEq α] [LawfulBEq α] [DecidableEq α] {l : List α} {x y : α} {i : Nat} (h : idxF l x = some i) (h2 : idxF l y = some i) : x = y := by
  obtain ⟨h1, e1⟩ := idxF_some h
  obtain ⟨_, e2⟩ := idxF_some h2
  rw [← e1, ← e2]
/-- A number as two bytes. -/
def enc16 (c : Nat) : List UInt8 := [UInt8.ofNat c, UInt8.ofNat (c / 256)]
theorem enc16_inj {c d : Nat} (hc : c < 65536) (hd : d < 65536) (h : enc16 c = enc16 d) : c = d := by
  unfold enc16 at h
  injection h with h1 h2
  injection h2 with h2 _
  have h1 := congrArg UInt8.toNat h1
  have h2 := congrArg UInt8.toNat h2
  simp at h1 h2
  omega
def keyL (cl : Nat → Nat) (nx : Nat → Nat → Nat) (bs : List Nat) (s : Nat) : List UInt8 := enc16 (cl s) ++ bs.flatMap fun b => enc16 (cl (nx s b))
theorem flat16_inj {f g : Nat → Nat} : ∀ (bs : List Nat), (∀ b ∈ bs, f b < 65536 ∧ g b < 65536) → (bs.flatMap fun b => enc16 (f b)) = (bs.flatMap fun b => enc16 (g b)) → ∀ b ∈ bs, f b = g b
  | [], _, _, b, hb => by cases hb
  | x :: r, hl, h, b, hb => by
    rw [List.flatMap_cons, List.flatMap_cons] at h
    obtain ⟨h1, h2⟩ := List.append_inj h rfl
    rcases List.mem_cons.1 hb with rfl | hb
    · exact enc16_inj (hl b (List.mem_cons_self ..)).1 (hl b (List.mem_cons_self ..)).2 h1
    · exact flat16_inj r (fun y hy => hl y (List.mem_cons_of_mem _ hy)) h2 b hb
theorem keyL_inj {cl : Nat → Nat} {nx : Nat → Nat → Nat} {bs : List Nat} {s t : Nat} (hs : cl s < 65536 ∧ cl t < 65536) (hb : ∀ b ∈ bs, cl (nx s b) < 65536 ∧ cl (nx t b) < 65536) : keyL cl nx bs s = keyL cl nx bs t ↔ cl s = cl t ∧ ∀ b ∈ bs, cl (nx s b) = cl (nx t b) := by
  constructor
  · intro h
    obtain ⟨h1, h2⟩ := List.append_inj h rfl
    exact ⟨enc16_inj hs.1 hs.2 h1, flat16_inj bs hb h2⟩
  · rintro ⟨h1, h2⟩
    unfold keyL
    rw [h1]
    congr 1
    rw [List.flatMap_def, List.flatMap_def, List.map_congr_left (fun b hb => by rw [h2 b hb])]
/-- The columns: of each byte there is one that leads alike. -/
def Cols (n : Nat) (nx : Nat → Nat → Nat) (bs : List Nat) (k : Nat) : Prop := (∀ b ∈ bs, b < 256) ∧ ∀ c, c < k → ∃ b ∈ bs, ∀ s, s < n → nx s b = nx s c
/-- The column of a byte, as a key. -/
def colL (n : Nat) (nx : Nat → Nat → Nat) (b : Nat) : List UInt8 := (List.range n).flatMap fun s => enc16 (nx s b)
theorem colL_inj {n : Nat} {nx : Nat → Nat → Nat} {b c : Nat} (hb : ∀ s, s < n → nx s b < 65536 ∧ nx s c < 65536) (h : colL n nx b = colL n nx c) : ∀ s, s < n → nx s b = nx s c := fun s hs =>
  flat16_inj (f := fun s => nx s b) (g := fun s => nx s c) (List.range n) (fun s hs => hb s (List.mem_range.1 hs)) h s (List.mem_range.2 hs)
/-- A round of the parting: the numbers are those of the keys. -/
theorem finer_of {T : Tab} {cl fin : Nat → Nat} {bs : List Nat} {L : List (List UInt8)} (hr : ∀ s c, s < T.n → c < 256 → T.nx s c < T.n) (hcl : ∀ s, s < T.n → cl s < 65536) (hc : Cols T.n T.nx bs 256) (hf : ∀ s, s < T.n → idxF L (keyL cl T.nx bs s) = some (fin s)) : Finer T fin cl := fun s t hs ht => by
  have hb : ∀ b ∈ bs, cl (T.nx s b) < 65536 ∧ cl (T.nx t b) < 65536 := fun b hb => ⟨hcl _ (hr s b hs (hc.1 b hb)), hcl _ (hr t b ht (hc.1 b hb))⟩
  have hk := keyL_inj (cl := cl) (nx := T.nx) (bs := bs) (s := s) (t := t) ⟨hcl s hs, hcl t ht⟩ hb
  constructor
  · intro e
    have h1 := hf s hs
    have h2 := hf t ht
    rw [← e] at h2
    obtain ⟨g1, g2⟩ := hk.1 (idxF_inj h1 h2)
    refine ⟨g1, fun c hcb => ?_⟩
    obtain ⟨b, hbm, hbe⟩ := hc.2 c hcb
    rw [← hbe s hs, ← hbe t ht]
    exact g2 b hbm
  · rintro ⟨g1, g2⟩
    have h1 := hf s hs
    have h2 := hf t ht
    rw [hk.2 ⟨g1, fun b hbm => g2 b (hc.1 b hbm)⟩] at h1
    rw [h1] at h2
    injection h2
end Go.Proofs.YtejmjjgbbojfbaaDoor

/- The slice type of bytes. -/
namespace Go.Proofs.YtejmjjgbbojfbaaDoor
theorem elBytes : Elem Tryd.prog 26 5 (.int .u8 0) 1 := ⟨Tryd.underlying26, by kernel_rfl, rfl, by decide⟩
end Go.Proofs.YtejmjjgbbojfbaaDoor

/- auto: a graph in memory: rows of 256 numbers, a list of bools. -/
namespace Go.Proofs.YtejmjjgbbojfbaaDoor
set_option linter.unusedVariables false
open Go.ChangeShapes Go.WideShapes Go.ChangeAt Go.RowKit

/-- Rows of 256 numbers as cells. -/
def flatN (nx : Nat → Nat → Nat) (n : Nat) : List Value := (List.range (n * 256)).map fun j => .int .i64 ((nx (j / 256) (j % 256) : Nat) : Int)
theorem flatN_length (nx : Nat → Nat → Nat) (n : Nat) : (flatN nx n).length = n * 256 := by simp [flatN]
theorem flatN_get (nx : Nat → Nat → Nat) {n s c : Nat} (hs : s < n) (hc : c < 256) : (flatN nx n)[s * 256 + c]? = some (.int .i64 ((nx s c : Nat) : Int)) := by
  unfold flatN
  rw [List.getElem?_map, List.getElem?_range (by omega)]
  simp only [Option.map_some]
  rw [show (s * 256 + c) / 256 = s by omega, show (s * 256 + c) % 256 = c by omega]
theorem flatN_congr {nx nx2 : Nat → Nat → Nat} {n : Nat} (h : ∀ s c, s < n → c < 256 → nx s c = nx2 s c) : flatN nx n = flatN nx2 n := by
  unfold flatN
  refine List.map_congr_left fun j hj => ?_
  have := List.mem_range.1 hj
  rw [h _ _ (by omega) (by omega)]
theorem flatN_snoc (nx : Nat → Nat → Nat) (n : Nat) : flatN nx (n + 1) = flatN nx n ++ (List.range 256).map fun c => .int .i64 ((nx n c : Nat) : Int) := by
  refine List.ext_getElem? fun j => ?_
  by_cases h1 : j < n * 256
  · rw [List.getElem?_append_left (by rw [flatN_length]; exact h1)]
    have e := flatN_get nx (n := n + 1) (s := j / 256) (c := j % 256) (by omega) (by omega)
    have e2 := flatN_get nx (n := n) (s := j / 256) (c := j % 256) (by omega) (by omega)
    rw [show j / 256 * 256 + j % 256 = j by omega] at e e2
    rw [e, e2]
  · rw [List.getElem?_append_right (by rw [flatN_length]; omega), flatN_length]
    by_cases h2 : j < (n + 1) * 256
    · have e := flatN_get nx (n := n + 1) (s := n) (c := j - n * 256) (by omega) (by omega)
      rw [show n * 256 + (j - n * 256) = j by omega] at e
      rw [e, List.getElem?_map, List.getElem?_range (by omega)]
      rfl
    · rw [List.getElem?_eq_none (by rw [flatN_length]; omega), List.getElem?_eq_none (by simp; omega)]
/-- A graph at block g. -/
structure GraphAt (w : World) (B g : Nat) (nv av : Value) (T : Tab) : Prop where
  blk : w.heap[g]? = some (.cells #[nv, av] 134 (0, 0))
  hg : B ≤ g
  next : w.ownsRow B 136 256 nv T.n (flatN T.nx T.n)
  acc : Own w B 4 av ((List.range T.n).map fun s => .bool (T.acc s))
theorem arr_eff {F : Nat → Prop} {w w' : World} {B n : Nat} {v : Value} {xs : List Value} {t : TypeId} {s : Nat} (h : w.ownsRow B t s v n xs) (e : Eff F w w') (hF : ∀ k, v.ownBlock = some k → ¬ F k) : w'.ownsRow B t s v n xs := by
  refine ⟨h.1, ?_⟩
  rcases h.2 with hn | ⟨g, cap, cur, rfl, hb, hgg, rest⟩
  · exact .inl hn
  · exact .inr ⟨g, cap, cur, rfl, hb, (e.block g (lt_of_heap hgg) (hF g rfl)).trans hgg, rest⟩
theorem GraphAt.eff {F : Nat → Prop} {w w' : World} {B g : Nat} {nv av : Value} {T : Tab} (h : GraphAt w B g nv av T) (e : Eff F w w') (hF : ∀ k, k < w.heap.size → B ≤ k → ¬ F k) : GraphAt w' B g nv av T :=
  ⟨(e.block g (lt_of_heap h.blk) (hF g (lt_of_heap h.blk) h.hg)).trans h.blk, h.hg, arr_eff h.next e (fun k hk => by have := World.ownsRow.lt h.next k hk; exact hF k this.2 this.1), h.acc.eff e (fun k hk => by have := h.acc.lt k hk; exact hF k this.2 this.1)⟩
theorem GraphAt.below {w w' : World} {B B' g : Nat} {nv av : Value} {T : Tab} (h : GraphAt w B g nv av T) (hb : Below B' w w') (hB : w.heap.size ≤ B') : GraphAt w' B g nv av T :=
  h.eff (F := fun k => B' ≤ k) ⟨hb.os, hb.tape, hb.output, hb.size, fun k hk hn => hb.block k (by omega)⟩ (fun k hk _ => by omega)
/-- Where a state goes. -/
theorem GraphAt.at_ {w : World} {B g : Nat} {nv av : Value} {T : Tab} (h : GraphAt w B g nv av T) : ∃ a c, nv = .slice a T.n c ∧ T.n ≤ c ∧ (0 < T.n → ∃ b, a = some ⟨b, 0, none⟩ ∧ ∀ s c, s < T.n → c < 256 → w.cell? ⟨b, s * 256 + c, none⟩ = some (.int .i64 ((T.nx s c : Nat) : Int))) := by
  rcases h.next.2 with ⟨e, h0⟩ | ⟨b, cap, cur, e, hb, hg, hn, _⟩
  · exact ⟨none, 0, by rw [e, h0], by omega, fun h9 => by omega⟩
  · refine ⟨_, _, e, hn, fun _ => ⟨b, rfl, fun s c hs hc => ?_⟩⟩
    have h9 := World.ownsRow.cells h.next (g := b) (by rw [e]; rfl) _ _ (flatN_get T.nx hs hc)
    rw [addr_add, Nat.zero_add] at h9
    exact h9
/-- One row as a value. -/
def rowV (f : Nat → Nat) : List Value := (List.range 256).map fun c => .int .i64 ((f c : Nat) : Int)
theorem rowV_length (f : Nat → Nat) : (rowV f).length = 256 := by simp [rowV]
theorem rowV_get (f : Nat → Nat) {c : Nat} (hc : c < 256) : (rowV f)[c]? = some (.int .i64 ((f c : Nat) : Int)) := by simp [rowV, hc]
theorem rowV_one (f : Nat → Nat) : ∀ u ∈ rowV f, u.oneCell' = true := by
  intro u hu
  obtain ⟨k, _, rfl⟩ := List.mem_map.1 hu
  rfl
theorem rowV_congr {f g : Nat → Nat} (h : ∀ c, c < 256 → f c = g c) : rowV f = rowV g := by
  unfold rowV
  exact List.map_congr_left fun c hc => by rw [h c (List.mem_range.1 hc)]
/-- A row that is being filled: k numbers, then noughts. -/
def rowK (f : Nat → Nat) (k : Nat) : Nat → Nat := fun c => if c < k then f c else 0
theorem rowK_zero (f : Nat → Nat) : rowV (rowK f 0) = List.replicate 256 (.int .i64 0) := by
  refine List.ext_getElem? fun j => ?_
  by_cases hj : j < 256
  · rw [rowV_get _ hj, List.getElem?_replicate, if_pos hj]; rfl
  · rw [List.getElem?_eq_none (by rw [rowV_length]; omega), List.getElem?_eq_none (by rw [List.length_replicate]; omega)]
theorem rowK_full (f : Nat → Nat) : rowV (rowK f 256) = rowV f := rowV_congr fun c hc => by unfold rowK; rw [if_pos hc]
theorem rowK_set (f : Nat → Nat) (k : Nat) : (rowV (rowK f k)).set k (.int .i64 ((f k : Nat) : Int)) = rowV (rowK f (k + 1)) := by
  refine List.ext_getElem? fun j => ?_
  by_cases hj : j < 256
  · rw [List.getElem?_set, rowV_get (rowK f (k + 1)) hj]
    by_cases e : k = j
    · subst e
      rw [if_pos rfl, if_pos (by rw [rowV_length]; exact hj)]
      simp [rowK]
    · rw [if_neg e, rowV_get _ hj]
      unfold rowK
      by_cases h1 : j < k
      · rw [if_pos h1, if_pos (by omega)]
      · rw [if_neg h1, if_neg (by omega)]
  · rw [List.getElem?_eq_none (by rw [List.length_set, rowV_length]; omega), List.getElem?_eq_none (by rw [rowV_length]; omega)]
/-- The zero row. -/
def arrZ : Value := .agg (Array.replicate 256 (.int .i64 0))
theorem arr_info : (Tryd.prog.info? 136).map (fun i => (i.zero, i.size, i.bytes)) = some (some arrZ, 256, 2048) := by kernel_rfl
theorem arr_zero (w : World) : (zeroValue 136).run Tryd.prog w = .ok arrZ w :=
  (zero_of_info (n := 256) (by obtain ⟨i, h1, h2⟩ := Option.map_eq_some_iff.1 arr_info; rw [h1]; simp only [Prod.mk.injEq] at h2; simp [h2.1, h2.2.1])).1 w
theorem arr_size : (Tryd.prog.info? 136).map (·.size) = some 256 := by
  obtain ⟨i, h1, h2⟩ := Option.map_eq_some_iff.1 arr_info; rw [h1]; simp only [Prod.mk.injEq] at h2; simp [h2.2.1]
theorem arrZ_cells : arrZ.cells = (rowV (rowK (fun _ => 0) 0)).toArray := by
  rw [rowK_zero, List.toArray_replicate]; rfl
theorem arr_zeroK (f : Nat → Nat) (w : World) : (zeroValue 136).run Tryd.prog w = .ok (.agg (rowV (rowK f 0)).toArray) w := by
  rw [arr_zero, rowK_zero, List.toArray_replicate]; rfl
theorem run_load_arr {w : World} {b o : Nat} {f : Nat → Nat} (h : w.rangeAt b o (rowV f)) : (Instr.loadAt 136 (.pointer (some ⟨b, o, none⟩))).run Tryd.prog w = .ok (.agg (rowV f).toArray) w :=
  run_loadAt_mid w b o 136 (rowV f) _ h Tryd.underlying136 rfl (by rw [rowV_length]; exact arr_size)
theorem run_index_arr (w : World) (f : Nat → Nat) {c : Nat} (hc : c < 256) : (Instr.index 136 (.agg (rowV f).toArray) (.int .i64 (c : Nat))).run Tryd.prog w = .ok (.int .i64 ((f c : Nat) : Int)) w := by
  have h1 : (rowV f).toArray[c]? = some (.int .i64 ((f c : Nat) : Int)) := by rw [List.getElem?_toArray]; exact rowV_get f hc
  have h2 : (rowV f).toArray.size = 256 := by rw [List.size_toArray, rowV_length]
  simp [Instr.index, run_underlying Tryd.underlying136, asIntOf, hc, rowV_get f hc, go_sem]
end Go.Proofs.YtejmjjgbbojfbaaDoor
