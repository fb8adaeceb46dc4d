/- auto: what the walk of table stands on. -/
import Derived.Test.YtejmjjgbbojfbaaDoorZG4
import Derived.Test.YtejmjjgbbojfbaaDoorZG4
import Derived.Test.YtejmjjgbbojfbaaDoorZG4
namespace Go.Proofs.YtejmjjgbbojfbaaDoor
set_option linter.unusedVariables false
open Go.ChangeShapes Go.WideShapes Go.ChangeAt Go.RowKit

/-- Numbers as cells, below nought too. -/
def intsI (f : Nat → Int) (n : Nat) : List Value := (List.range n).map fun k => Value.int .i64 (f k)
theorem intsI_length (f : Nat → Int) (n : Nat) : (intsI f n).length = n := by simp [intsI]
theorem intsI_get (f : Nat → Int) (n k : Nat) (h : k < n) : (intsI f n)[k]? = some (.int .i64 (f k)) := by simp [intsI, h]
theorem intsI_congr {f g : Nat → Int} {n : Nat} (h : ∀ k, k < n → f k = g k) : intsI f n = intsI g n := by
  unfold intsI; exact List.map_congr_left fun k hk => by rw [h k (List.mem_range.1 hk)]
theorem intsI_set (f : Nat → Int) (n k : Nat) (v : Int) : (intsI f n).set k (.int .i64 v) = intsI (fun i => if i = k then v else f i) n := by
  refine List.ext_getElem? fun i => ?_
  rw [List.getElem?_set]
  by_cases hi : i < n
  · rw [intsI_get _ _ _ hi]
    by_cases e : k = i
    · subst e; rw [if_pos rfl, if_pos (by rw [intsI_length]; exact hi), intsI_get _ _ _ hi, if_pos rfl]
    · rw [if_neg e, intsI_get _ _ _ hi, if_neg (fun e9 => e (Eq.symm e9))]
  · have h1 : (intsI f n)[i]? = none := List.getElem?_eq_none (by rw [intsI_length]; omega)
    have h2 : (intsI (fun i => if i = k then v else f i) n)[i]? = none := List.getElem?_eq_none (by rw [intsI_length]; omega)
    rw [h1, h2]
    by_cases e : k = i
    · rw [if_pos e, if_neg (by rw [intsI_length]; omega)]
    · rw [if_neg e]
theorem intsV_I (f : Nat → Nat) (n : Nat) : intsV f n = intsI (fun k => ((f k : Nat) : Int)) n := rfl
/-- The number of a state among those met: -1 where it is not. -/
def nmI (l : List Nat) (i : Nat) : Int := if i ∈ l then ((l.idxOf i : Nat) : Int) else -1
theorem nmI_one : ∀ i, nmI [0] i = if i = 0 then 0 else -1 := fun i => by
  unfold nmI
  by_cases e : i = 0
  · subst e; simp
  · rw [if_neg (by simpa using e), if_neg e]
theorem nmI_snoc {l : List Nat} {n : Nat} (h : n ∉ l) (i : Nat) : (if i = n then ((l.length : Nat) : Int) else nmI l i) = nmI (l ++ [n]) i := by
  unfold nmI
  by_cases e : i = n
  · subst e
    rw [if_pos rfl, if_pos (by simp), List.idxOf_append, if_neg h]
    simp
  · rw [if_neg e]
    by_cases hi : i ∈ l
    · rw [if_pos hi, if_pos (List.mem_append_left _ hi), List.idxOf_append, if_pos hi]
    · rw [if_neg hi, if_neg]
      intro h9
      rcases List.mem_append.1 h9 with h9 | h9
      · exact hi h9
      · exact e (List.mem_singleton.1 h9)
/-- A table in memory. -/
structure TabAt (w : World) (B : Nat) (A X : Option Addr) (ca cx : Nat) (T : Tab) : Prop where
  acc : Own w B 4 (.slice A T.n ca) ((List.range T.n).map fun s => .bool (T.acc s))
  nx : Own w B 3 (.slice X (256 * T.n) cx) (intsV (fun j => T.nx (j / 256) (j % 256)) (256 * T.n))
theorem TabAt.below {w w2 : World} {B B2 : Nat} {A X : Option Addr} {ca cx : Nat} {T : Tab} (h : TabAt w B A X ca cx T) (hb : Below B2 w w2) (hB : w.heap.size ≤ B2) : TabAt w2 B A X ca cx T := ⟨h.acc.below hb hB, h.nx.below hb hB⟩
theorem TabAt.mono {w : World} {B B2 : Nat} {A X : Option Addr} {ca cx : Nat} {T : Tab} (h : TabAt w B A X ca cx T) (hB : B2 ≤ B) : TabAt w B2 A X ca cx T := ⟨own_base h.acc hB, own_base h.nx hB⟩
/-- States met are never more than there are. -/
theorem nodup_le {l : List Nat} {n : Nat} (h : l.Nodup) (hr : ∀ x ∈ l, x < n) : l.length ≤ n := by
  by_cases hlt : l.length ≤ n
  · exact hlt
  · exfalso
    obtain ⟨i, hi, e⟩ := inj_onto l.length (fun i => l.getD i 0) (fun i hi => by
      show l.getD i 0 < l.length
      rw [show l.getD i 0 = l[i] by simp [List.getD, hi]]
      have := hr _ (List.getElem_mem hi); omega) (fun i j hi hj e => by
      have e : l.getD i 0 = l.getD j 0 := e
      rw [show l.getD i 0 = l[i] by simp [List.getD, hi], show l.getD j 0 = l[j] by simp [List.getD, hj]] at e
      rw [← h.idxOf_getElem i hi, ← h.idxOf_getElem j hj, e]) (l.length - 1) (by omega)
    have e : l.getD i 0 = l.length - 1 := e
    rw [show l.getD i 0 = l[i] by simp [List.getD, hi]] at e
    have := hr _ (List.getElem_mem hi)
    omega
structure TbS (w wr : World) (rs kb : Nat) (H : Tab) (mv : Value) (l : List Nat) : Prop where
  num : Own wr w.heap.size 3 (.slice (some ⟨kb, 0, none⟩) H.n H.n) (intsI (nmI l) H.n)
  met : Own wr w.heap.size 3 mv (natsV l)
  sep : mv.ownBlock ≠ some kb
  res : wr.heap[rs]? = some (.cells #[.int .i64 0, .slice none 0 0, .slice none 0 0] 54 (0, 0))
  bl : Below w.heap.size w wr
theorem TbS.drew {w wr : World} {rs kb : Nat} {H : Tab} {mv : Value} {l : List Nat} (h : TbS w wr rs kb H mv l) : TbS w wr.drew rs kb H mv l := ⟨h.num, h.met, h.sep, h.res, h.bl.drew⟩
theorem TbS.below {w wr w2 : World} {rs kb : Nat} {H : Tab} {mv : Value} {l : List Nat} (h : TbS w wr rs kb H mv l) (hb : Below wr.heap.size wr w2) : TbS w w2 rs kb H mv l :=
  ⟨h.num.below hb (Nat.le_refl _), h.met.below hb (Nat.le_refl _), h.sep, (hb.block rs (lt_of_heap h.res)).trans h.res, h.bl.trans (hb.mono h.bl.size)⟩
theorem TbS.alloc {w wr : World} {rs kb : Nat} {H : Tab} {mv : Value} {l : List Nat} (h : TbS w wr rs kb H mv l) (o : Obj) : TbS w (wr.alloc o) rs kb H mv l := h.below ((Below.refl _ _).alloc (Nat.le_refl _) o)
theorem heap_al {w : World} {b : Nat} {o o2 : Obj} (h : w.heap[b]? = some o) : (w.alloc o2).heap[b]? = some o := (Below.heap_alloc w o2 b (lt_of_heap h)).trans h
theorem TbS.ne {w wr : World} {rs kb : Nat} {H : Tab} {mv : Value} {l : List Nat} (h : TbS w wr rs kb H mv l) : rs ≠ kb := fun e => h.num.ne_type h.res (by decide) (by rw [e]; rfl)
theorem TbS.setT {w X : World} {rs kb tb : Nat} {H : Tab} {mv : Value} {l : List Nat} {cs : Array Value} (h : TbS w X rs kb H mv l) (hT : X.heap[tb]? = some (.cells cs 54 (0, 0))) (hr : rs ≠ tb) (hb : w.heap.size ≤ tb) (i : Nat) (u : Value) : TbS w (X.setCell ⟨tb, i, none⟩ u) rs kb H mv l :=
  ⟨h.num.setOther (p := ⟨tb, i, none⟩) (h.num.ne_type hT (by decide)) u, h.met.setOther (p := ⟨tb, i, none⟩) (h.met.ne_type hT (by decide)) u, h.sep, (Below.heap_setCell X ⟨tb, i, none⟩ u rs hr).trans h.res, h.bl.setCell (p := ⟨tb, i, none⟩) hb u⟩
theorem TbS.put {w wr : World} {rs kb n : Nat} {H : Tab} {mv : Value} {l : List Nat} (h : TbS w wr rs kb H mv l) (hn : n ∉ l) :
    Own (wr.setCell ⟨kb, n, none⟩ (.int .i64 ((l.length : Nat) : Int))) w.heap.size 3 (.slice (some ⟨kb, 0, none⟩) H.n H.n) (intsI (nmI (l ++ [n])) H.n) ∧
    Own (wr.setCell ⟨kb, n, none⟩ (.int .i64 ((l.length : Nat) : Int))) w.heap.size 3 mv (natsV l) ∧
    (wr.setCell ⟨kb, n, none⟩ (.int .i64 ((l.length : Nat) : Int))).heap[rs]? = some (.cells #[.int .i64 0, .slice none 0 0, .slice none 0 0] 54 (0, 0)) ∧
    Below w.heap.size w (wr.setCell ⟨kb, n, none⟩ (.int .i64 ((l.length : Nat) : Int))) := by
  have h1 := h.num.set n (.int .i64 ((l.length : Nat) : Int))
  rw [intsI_set] at h1
  exact ⟨own_to h1 (intsI_congr fun i _ => nmI_snoc hn i), h.met.setOther (p := ⟨kb, n, none⟩) h.sep _, (Below.heap_setCell wr ⟨kb, n, none⟩ _ rs h.ne).trans h.res, h.bl.setCell (p := ⟨kb, n, none⟩) (h.num.lt kb rfl).1 _⟩
theorem TbS.app {w w2 w3 : World} {rs kb n : Nat} {H : Tab} {mv mv2 : Value} {l : List Nat} (h1 : Own w2 w.heap.size 3 (.slice (some ⟨kb, 0, none⟩) H.n H.n) (intsI (nmI (l ++ [n])) H.n)) (h2 : Own w2 w.heap.size 3 mv (natsV l)) (hs : mv.ownBlock ≠ some kb)
    (h3 : w2.heap[rs]? = some (.cells #[.int .i64 0, .slice none 0 0, .slice none 0 0] 54 (0, 0))) (h4 : Below w.heap.size w w2) (g1 : Own w3 w.heap.size 3 mv2 (natsV l ++ [.int .i64 ((n : Nat) : Int)])) (g3 : mv2.ownBlock = mv.ownBlock ∨ (mv2.ownBlock = some (w2.heap.size + 1) ∧ Below w2.heap.size w2 w3)) (g4 : w2.grownBy w3 mv.ownBlock) :
    TbS w w3 rs kb H mv2 (l ++ [n]) := by
  have he := Eff.ofGrown g4
  refine ⟨h1.eff he (fun k hk e => ?_), by rw [natsV_snoc]; exact g1, ?_, (he.block rs (lt_of_heap h3) (h2.ne_type h3 (by decide))).trans h3, h4.grown g4 h4.size (fun k hk => (h2.lt k hk).1)⟩
  · have hk : kb = k := Option.some.inj hk
    rw [← hk] at e
    exact hs e
  · rcases g3 with g | ⟨g, _⟩
    · rw [g]; exact hs
    · rw [g]
      intro e
      have := (h1.lt kb rfl).2
      have := Option.some.inj e
      omega
/-- The state behind the table's making: i bools, q numbers are filled. -/
structure TcS (w wr : World) (rs kb tb ab xb : Nat) (H : Tab) (mv : Value) (l : List Nat) (i q : Nat) : Prop where
  st : TbS w wr rs kb H mv l
  tab : wr.heap[tb]? = some (.cells #[.int .i64 0, .slice (some ⟨ab, 0, none⟩) l.length l.length, .slice (some ⟨xb, 0, none⟩) (256 * l.length) (256 * l.length)] 54 (0, 0))
  htb : w.heap.size < tb
  acc : Own wr w.heap.size 4 (.slice (some ⟨ab, 0, none⟩) l.length l.length) ((List.range l.length).map fun s => Value.bool (if s < i then H.acc (l.getD s 0) else false))
  nx : Own wr w.heap.size 3 (.slice (some ⟨xb, 0, none⟩) (256 * l.length) (256 * l.length)) (intsV (fun j => if j < q then l.idxOf (H.nx (l.getD (j / 256) 0) (j % 256)) else 0) (256 * l.length))
  kx : kb ≠ xb
  mx : mv.ownBlock ≠ some xb
section
variable {w wr : World} {rs kb tb ab xb : Nat} {H : Tab} {mv : Value} {l : List Nat} {i q : Nat}
theorem TcS.setAcc (h : TcS w wr rs kb tb ab xb H mv l i q) (b : Bool) (hb : b = H.acc (l.getD i 0)) : TcS w (wr.setCell ⟨ab, i, none⟩ (.bool b)).drew rs kb tb ab xb H mv l (i + 1) q := by
  subst hb
  have hta : tb ≠ ab := fun e => h.acc.ne_type h.tab (by decide) (by rw [e]; rfl)
  have hra : rs ≠ ab := fun e => h.acc.ne_type h.st.res (by decide) (by rw [e]; rfl)
  have h1 := h.acc.set i (.bool (H.acc (l.getD i 0)))
  rw [bools_set] at h1
  have e1 : ((List.range l.length).map fun s => Value.bool (if s = i then H.acc (l.getD i 0) else if s < i then H.acc (l.getD s 0) else false)) = (List.range l.length).map fun s => Value.bool (if s < i + 1 then H.acc (l.getD s 0) else false) := List.map_congr_left fun s _ => by
    by_cases e : s = i
    · subst e; rw [if_pos rfl, if_pos (by omega)]
    · rw [if_neg e]
      by_cases e2 : s < i
      · rw [if_pos e2, if_pos (by omega)]
      · rw [if_neg e2, if_neg (by omega)]
  rw [e1] at h1
  refine ⟨⟨h.st.num.setOther (p := ⟨ab, i, none⟩) (fun e => own_types h.acc h.st.num (by decide) rfl e) _, h.st.met.setOther (p := ⟨ab, i, none⟩) (fun e => own_types h.acc h.st.met (by decide) rfl e) _, h.st.sep, (Below.heap_setCell wr ⟨ab, i, none⟩ _ rs hra).trans h.st.res, (h.st.bl.setCell (p := ⟨ab, i, none⟩) (h.acc.lt ab rfl).1 _).drew⟩,
    (Below.heap_setCell wr ⟨ab, i, none⟩ _ tb hta).trans h.tab, h.htb, h1, h.nx.setOther (p := ⟨ab, i, none⟩) (fun e => own_types h.acc h.nx (by decide) rfl e) _, h.kx, h.mx⟩
theorem TcS.setNx (h : TcS w wr rs kb tb ab xb H mv l i q) (k : Nat) (hk : k = l.idxOf (H.nx (l.getD (q / 256) 0) (q % 256))) : TcS w (wr.setCell ⟨xb, q, none⟩ (.int .i64 ((k : Nat) : Int))).drew rs kb tb ab xb H mv l i (q + 1) := by
  subst hk
  have hta : tb ≠ xb := fun e => h.nx.ne_type h.tab (by decide) (by rw [e]; rfl)
  have hra : rs ≠ xb := fun e => h.nx.ne_type h.st.res (by decide) (by rw [e]; rfl)
  have h1 := h.nx.set q (.int .i64 ((l.idxOf (H.nx (l.getD (q / 256) 0) (q % 256)) : Nat) : Int))
  rw [intsV_set] at h1
  refine ⟨⟨h.st.num.setOther (p := ⟨xb, q, none⟩) (fun e => h.kx (Option.some.inj e)) _, h.st.met.setOther (p := ⟨xb, q, none⟩) h.mx _, h.st.sep, (Below.heap_setCell wr ⟨xb, q, none⟩ _ rs hra).trans h.st.res, (h.st.bl.setCell (p := ⟨xb, q, none⟩) (h.nx.lt xb rfl).1 _).drew⟩,
    (Below.heap_setCell wr ⟨xb, q, none⟩ _ tb hta).trans h.tab, h.htb, h.acc.setOther (p := ⟨xb, q, none⟩) (fun e => own_types h.acc h.nx (by decide) e rfl) _, own_to h1 (intsV_congr fun j _ => ?_), h.kx, h.mx⟩
  by_cases e : j = q
  · subst e; rw [if_pos rfl, if_pos (by omega)]
  · rw [if_neg e]
    by_cases e2 : j < q
    · rw [if_pos e2, if_pos (by omega)]
    · rw [if_neg e2, if_neg (by omega)]
end
theorem mts_len {H : Tab} (h0 : 0 < H.n) (hr : ∀ s c, s < H.n → c < 256 → H.nx s c < H.n) (p : Nat) : (mts H p).length ≤ H.n := nodup_le (mts_nodup H p) (mts_rng H h0 hr p)
end Go.Proofs.YtejmjjgbbojfbaaDoor
