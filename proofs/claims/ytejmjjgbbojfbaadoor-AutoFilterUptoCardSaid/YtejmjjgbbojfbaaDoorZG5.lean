/- Merged: WRaw, Uns, Cat, WBytes, Num. -/
import Derived.Test.YtejmjjgbbojfbaaDoorZG4
import Derived.Test.YtejmjjgbbojfbaaDoorZG4
import Derived.Test.YtejmjjgbbojfbaaDoorZLib
import Derived.Test.YtejmjjgbbojfbaaDoorProg
import Derived.Test.YtejmjjgbbojfbaaDoorZG3
import Derived.Laws.CopyOwn
/- codec.Writer: Raw, Text. -/
namespace Go.Proofs.YtejmjjgbbojfbaaDoor
set_option linter.unusedVariables false
open Go.ChangeShapes Go.WideShapes Go.ChangeAt Go.RowKit

set_option maxRecDepth 100000 in
theorem wraw_any (w : World) (base p : Nat) (v : Value) (bs : List UInt8) (h : Wr w base p v bs) (hb : base ≤ w.heap.size) (hl : bs.length ≤ 10000000000) (s : Value) (cs : List UInt8) (hr : Rd w s (bytesV cs)) (hcs : cs.length ≤ 10000000000) :
    Calls Tryd.prog 71 #[.pointer (some ⟨p, 0, none⟩), s] w fun e w' => e = .returned (.tuple #[]) ∧ ∃ v', Wr w' base p v' (bs ++ cs) ∧ Wrote w w' p v v' := by
  have hl' : (bytesV bs).length + (bytesV cs).length < 1000000000001 := by rw [bytesV_length, bytesV_length]; omega
  have hc := h.read
  have hown := h.own
  have HO := Lib.hid (bytesV_one cs)
  have HR := Lib.hid hr
  obtain ⟨av, nv, cv, rfl⟩ := own_sl hown
  obtain ⟨as_, ns, cs_, rfl⟩ : ∃ a n c, s = .slice a n c := by obtain ⟨A, c, h, _⟩ := hr; exact ⟨_, _, _, h⟩
  clear hr
  go_enter Tryd.func71, Tryd.ntmps71
  go_wp2_with (at_builtin; with_reducible refine apN elBytes hown HR.out HO.out hl' hb rfl _ _ rfl rfl rfl ?_)
  intro v1 w1 g1 g2 g3 g4
  obtain ⟨hc1, hf1⟩ := wr_cell h g4
  obtain ⟨a1, n1, c1, rfl⟩ := own_sl g1
  rw [← bytesV_append] at g1
  obtain ⟨hw2, hwr2⟩ := wr_app h g1 (g3.imp id (fun h => ⟨_, h.1, Nat.le_refl _⟩)) g4
  go_wp2
  go_end0
  exact ⟨rfl, _, hw2, hwr2⟩

set_option maxRecDepth 100000 in
theorem wtext_any (w : World) (base p : Nat) (v : Value) (bs : List UInt8) (h : Wr w base p v bs) (hb : base ≤ w.heap.size) (hl : bs.length ≤ 10000000000) (s : ByteArray) (hs : s.size ≤ 10000000000) :
    Calls Tryd.prog 80 #[.pointer (some ⟨p, 0, none⟩), .string s] w fun e w' => e = .returned (.tuple #[]) ∧ ∃ v', Wr w' base p v' (bs ++ (uvar s.size ++ s.data.toList)) ∧ Wrote w w' p v v' := by
  have hu := (uvar_le s.size (by omega)).2
  have C1 := wuv_any w base p v bs h hb (by omega) s.size (by omega)
  go_enter Tryd.func80, Tryd.ntmps80
  go_wp2_with fail
  refine C1.mono ?_
  rintro e w1 ⟨rfl, v1, hw1, hr1⟩
  have hl' : (bytesV (bs ++ uvar s.size)).length + s.size < 1000000000001 := by rw [bytesV_length, List.length_append]; omega
  have hc := hw1.read
  have hown := hw1.own
  have hb1 := Nat.le_trans hb hr1.eff.size
  obtain ⟨av, nv, cv, rfl⟩ := own_sl hown
  go_wp2_with (at_builtin; with_reducible refine apS elBytes Tryd.underlying9 hown hl' hb1 rfl _ _ rfl rfl rfl ?_)
  intro v2 w2 g1 g2 g3 g4
  obtain ⟨hc1, hf1⟩ := wr_cell hw1 g4
  obtain ⟨a1, n1, c1, rfl⟩ := own_sl g1
  rw [← bytesV_append, List.append_assoc] at g1
  obtain ⟨hw2, hwr2⟩ := wr_app hw1 g1 (g3.imp id (fun h => ⟨_, h.1, Nat.le_refl _⟩)) g4
  go_wp2
  go_end0
  exact ⟨rfl, _, hw2, hr1.trans hwr2⟩
end Go.Proofs.YtejmjjgbbojfbaaDoor

/- concordhand: byteMark, and the look at a book's lists of bytes: where no two lie in one block it answers true. -/
namespace Go.Proofs.YtejmjjgbbojfbaaDoor
set_option linter.unusedVariables false
open Go.ChangeShapes Go.WideShapes Go.ChangeAt Go.RowKit

/-! ### Lists of lists -/
def Apart (ls : List Value) : Prop := ∀ (a b : Nat) (x y : Value) (k : Nat), ls[a]? = some x → ls[b]? = some y → a ≠ b → x.ownBlock = some k → y.ownBlock ≠ some k

/-- Each of ls is a list of elements e, the k-th holds C k. -/
def Each (w : World) (base : Nat) (e : TypeId) (ls : List Value) (C : Nat → List Value) : Prop := ∀ k x, ls[k]? = some x → Own w base e x (C k)

theorem each_at {w : World} {base : Nat} {e : TypeId} {ls : List Value} {D : Nat → List Value} (h : Each w base e ls D) {k : Nat} {x : Value} (hx : ls[k]? = some x) {xs : List Value} (hd : D k = xs) : Own w base e x xs := by
  rw [← hd]; exact h k x hx
theorem Each.congr {w : World} {base : Nat} {e : TypeId} {ls : List Value} {C D : Nat → List Value} (h : Each w base e ls C) (hc : ∀ k, k < ls.length → C k = D k) : Each w base e ls D :=
  fun k x hx => by rw [← hc k (List.getElem?_eq_some_iff.1 hx).1]; exact h k x hx

def marksOf (m : Nat → Nat → Value) (i n : Nat) : List Value := (List.range n).map (m i)
theorem marksOf_length (m : Nat → Nat → Value) (i n : Nat) : (marksOf m i n).length = n := by simp [marksOf]
theorem marksOf_succ (m : Nat → Nat → Value) (i n : Nat) : marksOf m i (n + 1) = marksOf m i n ++ [m i n] := by simp [marksOf, List.range_succ]
theorem marksOf_get (m : Nat → Nat → Value) (i n j : Nat) (h : j < n) : (marksOf m i n)[j]? = some (m i j) := by simp [marksOf, h]
theorem marksOf_add (m : Nat → Nat → Value) (i n k : Nat) : marksOf m i (n + k) = marksOf m i n ++ (List.range k).map (fun j => m i (n + j)) := by
  unfold marksOf
  rw [List.range_add, List.map_append, List.map_map]; rfl
def tailOf (m : Nat → Nat → Value) (i n k : Nat) : List Value := (List.range k).map fun j => m i (n + j)
theorem tailOf_length (m : Nat → Nat → Value) (i n k : Nat) : (tailOf m i n k).length = k := by simp [tailOf]
theorem tailOf_succ (m : Nat → Nat → Value) (i n k : Nat) : tailOf m i n (k + 1) = tailOf m i n k ++ [m i (n + k)] := by simp [tailOf, List.range_succ]
theorem marks_tail (m : Nat → Nat → Value) (i n k : Nat) : marksOf m i n ++ tailOf m i n k = marksOf m i (n + k) := (marksOf_add m i n k).symm
def partOf (m : Nat → Nat → Value) (i j : Nat) (xs : List Value) : List Value := marksOf m i j ++ xs.drop j
theorem partOf_zero (m : Nat → Nat → Value) (i : Nat) (xs : List Value) : partOf m i 0 xs = xs := by simp [partOf, marksOf]
theorem partOf_all (m : Nat → Nat → Value) (i : Nat) (xs : List Value) : partOf m i xs.length xs = marksOf m i xs.length := by simp [partOf]
theorem partOf_full (m : Nat → Nat → Value) (i : Nat) {xs : List Value} {n : Nat} (h : xs.length = n) : partOf m i n xs = marksOf m i xs.length := by subst h; exact partOf_all m i xs
theorem partOf_length (m : Nat → Nat → Value) (i j : Nat) (xs : List Value) (h : j ≤ xs.length) : (partOf m i j xs).length = xs.length := by simp [partOf, marksOf]; omega
theorem partOf_set (m : Nat → Nat → Value) (i j : Nat) (xs : List Value) (h : j < xs.length) : (partOf m i j xs).set j (m i j) = partOf m i (j + 1) xs := by
  unfold partOf
  rw [List.set_append_right _ _ (by rw [marksOf_length]; exact Nat.le_refl _), marksOf_length, Nat.sub_self, marksOf_succ, List.drop_eq_getElem_cons h, List.set_cons_zero, List.append_assoc]; rfl

/-! ### The marks -/
def bmN (i j : Nat) : Nat := (i * 37 + j * 11 + 1 + i * j % 5) % 256
def bmV (i j : Nat) : Value := .int .u8 ((bmN i j : Nat) : Int)
theorem bmV_one (i j : Nat) : (bmV i j).oneCell' = true := rfl

theorem elLists : Elem Tryd.prog 180 26 (.slice none 0 0) 24 := ⟨Tryd.underlying180, by kernel_rfl, rfl, by decide⟩
theorem each_store {w : World} {base : Nat} {e : TypeId} {ls : List Value} {D : Nat → List Value} (h : Each w base e ls D) (ha : Apart ls) {i g n c : Nat} (hi : ls[i]? = some (.slice (some ⟨g, 0, none⟩) n c)) (j : Nat) (u : Value) :
    Each (w.setCell ⟨g, j, none⟩ u) base e ls (fun k => if k = i then (D i).set j u else D k) := by
  intro k x hx
  by_cases hk : k = i
  · subst hk
    rw [hi] at hx
    injection hx with hx
    subst hx
    dsimp only
    rw [if_pos rfl]
    exact (h k _ hi).set j u
  · dsimp only
    rw [if_neg hk]
    exact (h k x hx).setOther (ha i k _ x g hi hx (fun e => hk e.symm) rfl) u

/-- v lies in no block of a list of ls but the i-th. -/
def Off (v : Value) (ls : List Value) (i : Nat) : Prop := ∀ (b : Nat) (y : Value) (k : Nat), b ≠ i → ls[b]? = some y → v.ownBlock = some k → y.ownBlock ≠ some k
theorem off_new {v v' : Value} {ls : List Value} {i B : Nat} (h : Off v ls i) (hv : v'.ownBlock = v.ownBlock ∨ v'.ownBlock = some B) (hB : ∀ (b : Nat) (y : Value) (k : Nat), ls[b]? = some y → y.ownBlock = some k → k < B) : Off v' ls i := by
  intro b y k hb hy hk hyk
  rcases hv with hv | hv
  · exact h b y k hb hy (hv ▸ hk) hyk
  · rw [hv] at hk
    injection hk with hk
    have := hB b y k hy hyk
    omega
theorem Each.lt {w : World} {base : Nat} {e : TypeId} {ls : List Value} {D : Nat → List Value} (h : Each w base e ls D) : ∀ (b : Nat) (y : Value) (k : Nat), ls[b]? = some y → y.ownBlock = some k → k < w.heap.size :=
  fun b y k hy hk => ((h b y hy).lt k hk).2
theorem Each.keeps {w w' : World} {base : Nat} {e : TypeId} {ls : List Value} {D : Nat → List Value} (h : Each w base e ls D) {v : Value} {n i : Nat} (hk : Keeps w w' v n) (ho : Off v ls i) (hi : ∀ x, ls[i]? = some x → (D i).length ≤ n) : Each w' base e ls D := by
  intro b y hy
  refine hk _ _ _ _ (h b y hy) fun k h1 h2 => ?_
  by_cases hb : b = i
  · subst hb; exact hi y hy
  · exact absurd h2 (ho b y k hb hy h1)
theorem Each.below {w w' : World} {base : Nat} {e : TypeId} {ls : List Value} {D : Nat → List Value} (h : Each w base e ls D) (hb : Below w.heap.size w w') : Each w' base e ls D :=
  fun k x hx => (h k x hx).below hb (Nat.le_refl _)
theorem Each.drewN {w : World} {base : Nat} {e : TypeId} {ls : List Value} {D : Nat → List Value} (h : Each w base e ls D) (n : Nat) : Each (w.drewN n) base e ls D := fun k x hx => (h k x hx).drewN n
theorem each_snoc {w : World} {base : Nat} {e : TypeId} {ls : List Value} {D : Nat → List Value} {v : Value} (h : Each w base e ls D) (hv : Own w base e v (D ls.length)) : Each w base e (ls ++ [v]) D := by
  intro k x hx
  rcases Nat.lt_trichotomy k ls.length with hk | hk | hk
  · rw [List.getElem?_append_left hk] at hx; exact h k x hx
  · subst hk
    rw [List.getElem?_append_right (Nat.le_refl _), Nat.sub_self] at hx
    simp at hx
    rw [← hx]; exact hv
  · rw [List.getElem?_eq_none (by simp; omega)] at hx; cases hx
theorem off_snoc {v x : Value} {ls : List Value} {i : Nat} (h : Off v ls i) (hx : ls.length ≠ i → ∀ k, v.ownBlock = some k → x.ownBlock ≠ some k) : Off v (ls ++ [x]) i := by
  intro b y k hb hy hk
  rcases Nat.lt_trichotomy b ls.length with hl | hl | hl
  · rw [List.getElem?_append_left hl] at hy; exact h b y k hb hy hk
  · subst hl
    rw [List.getElem?_append_right (Nat.le_refl _), Nat.sub_self] at hy
    simp at hy
    rw [← hy]; exact hx hb k hk
  · rw [List.getElem?_eq_none (by simp; omega)] at hy; cases hy
theorem apart_snoc {ls : List Value} {v : Value} (h : Apart ls) (hv : Off v ls ls.length) : Apart (ls ++ [v]) := by
  intro a b x y k hx hy hab hk
  have get : ∀ (c : Nat) (z : Value), (ls ++ [v])[c]? = some z → (c < ls.length ∧ ls[c]? = some z) ∨ (c = ls.length ∧ z = v) := by
    intro c z hz
    rcases Nat.lt_trichotomy c ls.length with hl | hl | hl
    · rw [List.getElem?_append_left hl] at hz; exact .inl ⟨hl, hz⟩
    · subst hl
      rw [List.getElem?_append_right (Nat.le_refl _), Nat.sub_self] at hz
      simp at hz
      exact .inr ⟨rfl, hz.symm⟩
    · rw [List.getElem?_eq_none (by simp; omega)] at hz; cases hz
  rcases get a x hx with ⟨ha, hx1⟩ | ⟨ha, hx1⟩
  · rcases get b y hy with ⟨hb, hy1⟩ | ⟨hb, hy1⟩
    · exact h a b x y k hx1 hy1 hab hk
    · intro hk2; rw [hy1] at hk2; exact hv a x k (by omega) hx1 hk2 hk
  · rw [hx1] at hk
    rcases get b y hy with ⟨hb, hy1⟩ | ⟨hb, hy1⟩
    · exact hv b y k (by omega) hy1 hk
    · omega

/-- The blocks of the lists. -/
def BlocksOf (ls : List Value) (b : Nat) : Prop := ∃ (k : Nat) (x : Value), ls[k]? = some x ∧ x.ownBlock = some b

end Go.Proofs.YtejmjjgbbojfbaaDoor

/- codec.Concat: the bytes of all parts, in a block of their own. -/
namespace Go.Proofs.YtejmjjgbbojfbaaDoor
set_option linter.unusedVariables false
open Go.ChangeShapes Go.WideShapes Go.ChangeAt Go.RowKit

def catL (B : Nat → List UInt8) (n : Nat) : List UInt8 := (List.range n).flatMap B
theorem catL_succ (B : Nat → List UInt8) (n : Nat) : catL B (n + 1) = catL B n ++ B n := by simp [catL, List.range_succ, List.flatMap_append]
theorem catL_mono (B : Nat → List UInt8) {i n : Nat} (h : i ≤ n) : (catL B i).length ≤ (catL B n).length := by
  induction n with
  | zero => have : i = 0 := by omega
            subst this; exact Nat.le_refl _
  | succ n ih =>
    rcases Nat.lt_or_ge n i with h1 | h1
    · have : i = n + 1 := by omega
      subst this; exact Nat.le_refl _
    · have := ih h1; rw [catL_succ, List.length_append]; omega
theorem catL_congr {B D : Nat → List UInt8} {n : Nat} (h : ∀ k, k < n → B k = D k) : catL B n = catL D n := by
  induction n with
  | zero => rfl
  | succ n ih => rw [catL_succ, catL_succ, ih (fun k hk => h k (by omega)), h n (Nat.lt_succ_self n)]
def zer (n : Nat) : List Value := List.replicate n (.int .u8 0)
theorem madeZer (N : Nat) : madeCells #[.int .u8 0] N = (zer N).toArray := by
  refine Array.ext (by rw [size_madeCells]; simp [zer]) fun i h1 h2 => ?_
  simp [madeCells, zer, Nat.mod_one]
/-- Each of ls reads, the k-th B k. -/
def Rds (w : World) (ls : List Value) (B : Nat → List UInt8) : Prop := ∀ k x, ls[k]? = some x → Rd w x (bytesV (B k))
theorem cat_splice (B : Nat → List UInt8) (N i : Nat) (h : (catL B (i + 1)).length ≤ N) :
    splice (bytesV (catL B i) ++ zer (N - (catL B i).length)) (catL B i).length (bytesV (B i)) = bytesV (catL B (i + 1)) ++ zer (N - (catL B (i + 1)).length) := by
  rw [catL_succ, List.length_append] at h
  unfold splice
  rw [catL_succ, List.take_left' (bytesV_length _), List.drop_append, bytesV_append, List.drop_eq_nil_of_le (by rw [bytesV_length, bytesV_length]; omega), bytesV_length, bytesV_length, List.length_append]
  unfold zer
  rw [List.drop_replicate]
  simp only [List.append_assoc, List.nil_append]
  congr 3
  omega

set_option maxRecDepth 100000 in
set_option maxHeartbeats 2000000 in
theorem cat_any (w : World) (a : Option Addr) (m c : Nat) (ls : List Value) (B : Nat → List UInt8) (hr : Rd w (.slice a m c) ls) (hB : Rds w ls B) (hl : ls.length ≤ 1000000000) (hn : (catL B ls.length).length ≤ 1000000000) :
    Calls Tryd.prog 81 #[.slice a m c] w fun e w' => ∃ v, e = .returned v ∧ Own w' w.heap.size 5 v (bytesV (catL B ls.length)) ∧ Below w.heap.size w w' := by
  have hm : m = ls.length := by obtain ⟨A, c', h, _⟩ := hr; injection h with _ h _
  subst hm
  have HB := Lib.hid hB
  have HR := Lib.hid hr
  clear hB hr
  have he : (Tryd.prog.info? 5).map (·.size) = some 1 := by kernel_rfl
  have hmon : ∀ i, i ≤ ls.length → (catL B i).length ≤ (catL B ls.length).length := fun i h => catL_mono B h
  have HM := Lib.hid hmon
  clear hmon
  go_enter Tryd.func81, Tryd.ntmps81
  go_wp2
  go_loopw [3, 12] (fun s3 s12 wr => ∃ i : Nat, s12 = .int .i64 i ∧ i ≤ ls.length ∧ s3 = .int .i64 ((catL B i).length : Nat) ∧ w = wr) (fun _ s _ => ls.length - (intOf s).toNat)
  case atStart => exact ⟨0, rfl, Nat.zero_le _, rfl, rfl⟩
  case round =>
    obtain ⟨i, rfl, hi, rfl, rfl⟩ := hrel
    by_cases hlt : i < ls.length
    · obtain ⟨A, c', h, hc, hgg⟩ := HR.out
      obtain ⟨b, o, rfl, hg⟩ := hgg (by omega)
      injection h with ha _ _
      subst ha
      obtain ⟨x, hx⟩ : ∃ x, ls[i]? = some x := ⟨_, List.getElem?_eq_getElem hlt⟩
      have hcx := hg i x hx
      obtain ⟨A2, c2, rfl, _, _⟩ := HB.out i x hx
      rw [bytesV_length] at hcx
      have h1 := HM.out (i + 1) hlt
      rw [catL_succ, List.length_append] at h1
      have h2 : ((catL B i).length : Int) + ((B i).length : Int) ≤ 1000000000 := by omega
      clear hg hgg hx
      go_wp2
      go_roundw
      case rel => exact ⟨i + 1, by go_num, by omega, by rw [catL_succ, List.length_append]; go_num, trivial⟩
      case measure => simp [intOf]; omega
    · obtain rfl : i = ls.length := by omega
      obtain ⟨N, hN⟩ : ∃ N, (catL B ls.length).length = N := ⟨_, rfl⟩
      have hNb : (N : Int) ≤ 1000000000 := by omega
      have hNb2 : N ≤ 1000000000000 := by omega
      have hN2 := Lib.hid hN
      clear hi hlt hn
      rw [hN]
      clear hN
      have hmk := fun (w : World) => make_row elBytes rfl N hNb2 (N : Int) rfl w
      have hz0 : (w.alloc (.cells (madeCells #[.int .u8 0] N) 5)).heap[w.heap.size]? = some (.cells (zer N).toArray 5 (0, 0)) := by rw [heap_alloc_new, madeZer]
      go_wp2
      go_loopw [7, 25] (fun s7 s25 wr => ∃ i : Nat, s25 = .int .i64 i ∧ i ≤ ls.length ∧ s7 = .int .i64 ((catL B i).length : Nat) ∧ wr.heap[w.heap.size]? = some (.cells (bytesV (catL B i) ++ zer (N - (catL B i).length)).toArray 5 (0, 0)) ∧ Below w.heap.size w wr) (fun _ s _ => ls.length - (intOf s).toNat)
      case atStart =>
        have hz1 : (w.alloc (.cells (madeCells #[.int .u8 0] N) 5)).heap[w.heap.size]? = some (.cells (bytesV (catL B 0) ++ zer (N - (catL B 0).length)).toArray 5 (0, 0)) := hz0
        exact ⟨0, rfl, Nat.zero_le _, rfl, hz1, (Below.refl _ _).alloc (Nat.le_refl _) _⟩
      case round =>
        obtain ⟨i, rfl, hi, rfl, hh, hb⟩ := hrel
        by_cases hlt : i < ls.length
        · have hR := HR.out.below hb (Nat.le_refl _)
          obtain ⟨A, c', h, hc, hgg⟩ := hR
          obtain ⟨b, o, rfl, hg⟩ := hgg (by omega)
          injection h with ha _ hcc
          subst ha
          subst hcc
          obtain ⟨x, hx⟩ : ∃ x, ls[i]? = some x := ⟨_, List.getElem?_eq_getElem hlt⟩
          have hcx := hg i x hx
          have hxr := (HB.out i x hx).below hb (Nat.le_refl _)
          obtain ⟨A2, c2, rfl, hc2, hg2⟩ := hxr
          rw [bytesV_length] at hcx hc2 hg2
          have h1 := HM.out (i + 1) hlt
          rw [hN2.out] at h1
          have h3 := h1
          rw [catL_succ, List.length_append] at h1
          have h2 : ((catL B i).length : Int) ≤ N := by omega
          have h2' : (catL B i).length ≤ N := by omega
          clear hg hgg hx
          have HH := Lib.hid hh
          clear hh
          have k1 : (bytesV (B i)).length = Nat.min (B i).length (N - (catL B i).length) := by rw [bytesV_length]; exact (Nat.min_eq_left (by omega)).symm
          have k2 : (catL B i).length + (bytesV (B i)).length ≤ (bytesV (catL B i) ++ zer (N - (catL B i).length)).length := by simp [bytesV_length, zer]; omega
          have k3 := bytesV_one (B i)
          have K3 := Lib.hid k3
          have G2 := Lib.hid hg2
          clear k3 hg2
          go_upto_region 12 with fail
          go_wp2_with (with_reducible refine wpList_copy_splice rfl (.tmp 32) (.tmp 33) 26 26 rfl 5 Tryd.underlying26 he _ _ _ _ _ _ rfl rfl w.heap.size (catL B i).length _ 5 HH.out (bytesV (B i)) ?_ ?_ k2 K3.out w.heap.size w hb (Nat.le_refl _) ?_)
          case refine_2 =>
            intro hp
            obtain ⟨b', o', rfl, hg⟩ := G2.out (by have := hp; simp [Nat.min_def] at this; split at this <;> omega)
            exact ⟨fun h => by rw [← h] at hp; simp at hp, _, rfl, fun j v hj => by rw [addr_add]; exact hg j v hj⟩
          all_goals
            intro w' hid hb'
            have e := cat_splice B N i h3
            have k0 : (B i).length.min (N - (catL B i).length) = (B i).length := Nat.min_eq_left (by omega)
            try subst h
            try (rw [Nat.sub_self] at e)
            rw [e] at hid
            go_wp2
            go_roundw
            case rel => exact ⟨i + 1, by go_num, by omega, congrArg (Value.int .i64) (by rw [catL_succ, List.length_append]; omega), hid, hb'⟩
            case measure => simp [intOf]; omega
        · obtain rfl : i = ls.length := by omega
          go_wp2
          refine bodyPost_ret (results_tmp rfl _ _ _) ?_ ?_
          · rfl
          have hh2 := hh
          rw [hN2.out, Nat.sub_self] at hh2
          refine ⟨_, rfl, .inr ⟨w.heap.size, N, _, ?_, Nat.le_refl _, hh2, ?_, ?_, ?_, ?_⟩, hb⟩
          · rw [bytesV_length, hN2.out]; rfl
          · rw [bytesV_length, hN2.out]; exact Nat.le_refl _
          · simp [bytesV_length, hN2.out, zer]
          · unfold maxLen; omega
          · simp [zer]
end Go.Proofs.YtejmjjgbbojfbaaDoor

/- codec.Writer: Bytes. -/
namespace Go.Proofs.YtejmjjgbbojfbaaDoor
set_option linter.unusedVariables false
open Go.ChangeShapes Go.WideShapes Go.ChangeAt Go.RowKit

theorem cat_one (w : World) (v : Value) (bs : List UInt8) (hr : Rd w v (bytesV bs)) (hn : bs.length ≤ 1000000000) :
    Calls Tryd.prog 81 #[.slice (some ⟨w.heap.size, 0, none⟩) 1 1] (w.alloc (.cells #[v] 26)) fun e w' => ∃ v', e = .returned v' ∧ Own w' w.heap.size 5 v' (bytesV bs) ∧ Below w.heap.size w w' := by
  have hB0 : Below w.heap.size w (w.alloc (.cells #[v] 26)) := (Below.refl _ _).alloc (Nat.le_refl _) _
  have hr1 := hr.below hB0 (Nat.le_refl _)
  have hls : Rd (w.alloc (.cells #[v] 26)) (.slice (some ⟨w.heap.size, 0, none⟩) 1 1) [v] := (own_one w w.heap.size 26 _ (Nat.le_refl _)).rd
  have hBs : Rds (w.alloc (.cells #[v] 26)) [v] (fun _ => bs) := fun k x hx => by
    match k, hx with
    | 0, hx => simp at hx; subst hx; exact hr1
    | k + 1, hx => simp at hx
  have hcl : catL (fun _ => bs) 1 = bs := by simp [catL]
  have C1 := cat_any _ _ 1 1 _ _ hls hBs (by simp) (by simpa [hcl] using hn)
  rw [show [v].length = 1 from rfl, hcl] at C1
  refine C1.mono ?_
  rintro e w1 ⟨v, rfl, ho, hb⟩
  exact ⟨v, rfl, own_base ho (by simp), hB0.trans (hb.mono (by simp))⟩
set_option maxRecDepth 100000 in
theorem wbytes_any (w : World) (base p : Nat) (v : Value) (bs : List UInt8) (h : Wr w base p v bs) (hl : bs.length ≤ 1000000000) :
    Calls Tryd.prog 72 #[.pointer (some ⟨p, 0, none⟩)] w fun e w' => ∃ v', e = .returned v' ∧ Own w' w.heap.size 5 v' (bytesV bs) ∧ Below w.heap.size w w' := by
  have hc := h.read
  have C1 := cat_one w v bs h.own.rd hl
  obtain ⟨a, n, c, rfl⟩ := own_sl h.own
  go_enter Tryd.func72, Tryd.ntmps72
  go_wp2_with fail
  refine C1.mono ?_
  rintro e w1 ⟨v', rfl, ho, hb⟩
  go_wp2
  go_ret
  exact ⟨_, rfl, ho, hb⟩
end Go.Proofs.YtejmjjgbbojfbaaDoor

/- The walks of the functions on single numbers: Zig, Zag, UvarintLen, bits.Len64, and the document's Zig, Zag, Uvarint, Varint. -/
namespace Go.Proofs.YtejmjjgbbojfbaaDoor
open Go.ChangeShapes Go.WideShapes Go.ChangeAt Go.RowKit

def zigI (v : Int) : Int := if 0 ≤ v then 2 * v else -2 * v - 1
theorem zigI_bd (v : Int) (h0 : -9223372036854775808 ≤ v) (h1 : v ≤ 9223372036854775807) : 0 ≤ zigI v ∧ zigI v ≤ 18446744073709551615 := by
  unfold zigI; split <;> omega
def zagI (u : Int) : Int := if u % 2 = 0 then u / 2 else -(u / 2) - 1
theorem zagI_bd (u : Int) (h0 : 0 ≤ u) (h1 : u ≤ 18446744073709551615) : -9223372036854775808 ≤ zagI u ∧ zagI u ≤ 9223372036854775807 := by
  unfold zagI; split <;> omega
theorem zag_zig (v : Int) : zagI (zigI v) = v := by
  unfold zagI zigI; split <;> split <;> omega
theorem zig_zag (u : Int) (h0 : 0 ≤ u) : zigI (zagI u) = u := by
  unfold zagI zigI; split <;> split <;> omega

theorem zig_bits (v : Int) (h0 : -9223372036854775808 ≤ v) (h1 : v ≤ 9223372036854775807) :
    bits .xor .u64 (IntKind.u64.wrap (IntKind.u64.wrap v * 2)) (IntKind.u64.wrap (v / 9223372036854775808)) = zigI v := by
  simp only [IntKind.wrap_u64]
  by_cases h : 0 ≤ v
  · rw [show v / 9223372036854775808 % 18446744073709551616 = 0 by omega, show v % 18446744073709551616 * 2 % 18446744073709551616 = 2 * v by omega, xor_zero _ (by omega) (by omega)]
    unfold zigI; rw [if_pos h]
  · rw [show v / 9223372036854775808 % 18446744073709551616 = 18446744073709551615 by omega, xor_ones _ (by omega) (by omega)]
    unfold zigI; rw [if_neg h]; omega
theorem zag_bits (v : Int) (h0 : 0 ≤ v) (h1 : v ≤ 18446744073709551615) :
    bits .xor .i64 (v / 2) (wrap64 (-wrap64 (bits .and .u64 v 1))) = zagI v := by
  unfold zagI
  rw [u64_and v 1 h0 (by omega) (by omega) (by omega), show (1 : Int).toNat = 1 from rfl, nat_mask1]
  obtain ⟨q, hq⟩ : ∃ q : BitVec 64, q = BitVec.ofInt 64 (v / 2) := ⟨_, rfl⟩
  have hq' : q.toNat = (v / 2).toNat := by rw [hq]; simp [BitVec.toNat_ofInt]; omega
  by_cases h : v % 2 = 0
  · rw [show ((v.toNat % 2 : Nat) : Int) = 0 by omega, if_pos h, xor_i64, ← hq, show wrap64 (-wrap64 0) = 0 by simp only [wrap64]; decide, show BitVec.ofInt 64 0 = 0#64 by decide, BitVec.xor_zero, wrap_i64_nat _ q.isLt, if_pos (by omega), hq']
    omega
  · rw [show ((v.toNat % 2 : Nat) : Int) = 1 by omega, if_neg h, xor_i64, ← hq, show wrap64 (-wrap64 1) = -1 by simp only [wrap64]; decide, show BitVec.ofInt 64 (-1) = BitVec.allOnes 64 by decide, BitVec.xor_allOnes, wrap_i64_nat _ (~~~q).isLt, BitVec.toNat_not, hq', if_neg (by omega)]
    omega

theorem len8_get (j : Nat) (hj : j < Lib.len8tab.size) : (Lib.len8tab[j]).toNat = Lib.bitLen j := by
  have h256 : j < 256 := by rw [Lib.len8tab_size] at hj; exact hj
  have h := Lib.len8_of (j : Int) (by omega) (by omega)
  unfold Lib.len8 at h
  rw [show ((j : Int)).toNat = j from rfl, getElem?_pos Lib.len8tab j hj] at h
  simp only [Option.getD_some] at h
  exact Int.ofNat.inj h
theorem len_close (s x j : Nat) (hj : j < Lib.len8tab.size) (e : j = x / 2 ^ s) (hb : 2 ^ s ≤ x) (hx : x < 2 ^ 64) (k : Int) (hk : k = s) (hs : s ≤ 56) :
    wrap64 (k + wrap64 ((Lib.len8tab[j]).toNat : Int)) = (Lib.bitLen x : Int) := by
  have h256 : j < 256 := by rw [Lib.len8tab_size] at hj; exact hj
  have l : Lib.bitLen j ≤ 8 := Lib.bitLen_le8 ⟨j, h256⟩
  rw [len8_get j hj, IntWalk.wrap64_in ((Lib.bitLen j : Nat) : Int) ⟨by omega, by omega⟩, IntWalk.wrap64_in _ ⟨by omega, by omega⟩, Lib.bitLen_shift s x hb hx, ← e]
  omega
theorem len_close0 (x j : Nat) (hj : j < Lib.len8tab.size) (e : j = x) :
    wrap64 (wrap64 ((Lib.len8tab[j]).toNat : Int)) = (Lib.bitLen x : Int) := by
  subst e
  have h256 : j < 256 := by rw [Lib.len8tab_size] at hj; exact hj
  have l : Lib.bitLen j ≤ 8 := Lib.bitLen_le8 ⟨j, h256⟩
  rw [len8_get j hj, IntWalk.wrap64_in ((Lib.bitLen j : Nat) : Int) ⟨by omega, by omega⟩, IntWalk.wrap64_in _ ⟨by omega, by omega⟩]
end Go.Proofs.YtejmjjgbbojfbaaDoor
