/- Merged: PostS, SkipV, Uns. -/
import Derived.Test.YthnpbfadblcicaaDoorZG2
import Derived.OwnWalk
import Derived.Test.YthnpbfadblcicaaDoorZLib
import Derived.Test.YthnpbfadblcicaaDoorProg
import Derived.Test.YthnpbfadblcicaaDoorZG1
/- posts, plain: how long the bytes are; the blocks one by one. No program occurs here. -/
namespace Go.Proofs.YthnpbfadblcicaaDoor
set_option linter.unusedVariables false

theorem pckB_le {l : List Nat} (hl : l.length ≤ 16) (hf : ∀ x ∈ l, x < 2 ^ 63) : (pckB l).length ≤ 140 := by
  unfold pckB
  have h1 := (uvar_le l.length (by omega)).2
  have h2 := widL_63 hf
  have h3 : l.length * widL l ≤ 16 * 63 := Nat.mul_le_mul hl h2
  rw [List.length_append]
  split
  · simp; omega
  · unfold packB
    rw [List.length_cons, leB_length]
    omega
theorem FitP.left {a b : List PostV} (h : FitP (a ++ b)) : FitP a := fun p hp => h p (List.mem_append_left _ hp)
theorem FitP.right {a b : List PostV} (h : FitP (a ++ b)) : FitP b := fun p hp => h p (List.mem_append_right _ hp)
theorem FitP.take {l : List PostV} (h : FitP l) (n : Nat) : FitP (l.take n) := fun p hp => h p (List.mem_of_mem_take hp)
theorem FitP.drop {l : List PostV} (h : FitP l) (n : Nat) : FitP (l.drop n) := fun p hp => h p (List.mem_of_mem_drop hp)
theorem freqV_fits {l : List PostV} (hf : FitP l) : ∀ x ∈ freqV l, x < 2 ^ 63 := fun x hx => by
  obtain ⟨p, hp, rfl⟩ := List.mem_map.1 hx
  have := (hf p hp).2.2
  omega
theorem gapsD_fits {base : Int} {l : List PostV} (ok : okV base l) (hb : -1 ≤ base) : ∀ x ∈ gapsD base l, x < 2 ^ 63 := fun x hx => by
  have := okV_gaps ok hb x hx
  omega
theorem tailV_le : ∀ {base : Int} {l : List PostV}, FitP l → okV base l → (tailV l).length ≤ 10 * totalV l
  | base, [], _, _ => by simp [tailV]
  | base, p :: r, hf, ok => by
    obtain ⟨h1, h2⟩ := okV_cons ok
    have g := goodV_ok h1
    have hp := hf p (List.mem_cons_self ..)
    have h3 := gapsB_le hp.2.1 (-1) (by omega) (fun z hz => by
      have := List.any_eq_false.1 g.2.2.2.2.1 z hz
      simpa using this)
    have h4 := tailV_le (fun q hq => hf q (List.mem_cons_of_mem _ hq)) h2
    unfold tailV totalV at *
    rw [List.flatMap_cons, List.length_append, List.map_cons, List.sum_cons]
    omega
theorem blockB_le {base : Int} {l : List PostV} (hf : FitP l) (ok : okV base l) (hb : -1 ≤ base) (hl : l.length ≤ 16) : (blockB base l).length ≤ 280 + 10 * totalV l := by
  unfold blockB
  have h1 := pckB_le (l := gapsD base l) (by rw [gapsD_length]; exact hl) (gapsD_fits ok hb)
  have h2 := pckB_le (l := freqV l) (by rw [freqV_length]; exact hl) (freqV_fits hf)
  have h3 := tailV_le hf ok
  rw [List.length_append, List.length_append]
  omega
theorem totalV_append (a b : List PostV) : totalV (a ++ b) = totalV a + totalV b := by simp [totalV]
theorem totalV_split (l : List PostV) (n : Nat) : totalV l = totalV (l.take n) + totalV (l.drop n) := by
  rw [← totalV_append, List.take_append_drop]
theorem okV_split {base : Int} {l : List PostV} (ok : okV base l) (n : Nat) : okV base (l.take n) ∧ okV (lastV base (l.take n)) (l.drop n) := by
  rw [← List.take_append_drop n l] at ok
  exact okV_append ok
theorem okV_ge {base : Int} {l : List PostV} (ok : okV base l) (hb : -1 ≤ base) : -1 ≤ lastV base l := by
  have := (okV_last ok).1; omega
/-- By blocks. -/
theorem blks_le2 : ∀ (n : Nat) (base : Int) (l : List PostV), l.length ≤ n → FitP l → okV base l → -1 ≤ base → base < 2147483647 → totalV l ≤ 1000000000 →
    (headV (blksV base (chp l))).length ≤ 20 * ((l.length + 15) / 16) ∧ (bodyV (blksV base (chp l))).length ≤ 280 * ((l.length + 15) / 16) + 10 * totalV l
  | 0, base, l, hl, hf, ok, hb, hb2, hT => by
    have : l = [] := List.eq_nil_of_length_eq_zero (by omega)
    subst this
    rw [chp_nil]; simp [blksV, headV, bodyV]
  | n + 1, base, l, hl, hf, ok, hb, hb2, hT => by
    by_cases h0 : l = []
    · subst h0; rw [chp_nil]; simp [blksV, headV, bodyV]
    · rw [chp_cons h0]
      obtain ⟨o1, o2⟩ := okV_split ok 16
      have hne : l.take 16 ≠ [] := by
        intro h; apply h0
        have h9 := congrArg List.length h
        rw [List.length_take] at h9
        exact List.eq_nil_of_length_eq_zero (by simp only [List.length_nil] at h9; omega)
      have hla := (okV_last o1).2 hne
      have hlp : 0 < l.length := List.length_pos_iff.2 h0
      have hts := totalV_split l 16
      obtain ⟨i1, i2⟩ := blks_le2 n (lastV base (l.take 16)) (l.drop 16) (by rw [List.length_drop]; omega) (hf.drop 16) o2 (by omega) (by omega) (by omega)
      have hbk := blockB_le (hf.take 16) o1 hb (by rw [List.length_take]; omega)
      rw [List.length_drop] at i1 i2
      unfold blksV headV bodyV
      unfold headV at i1
      unfold bodyV at i2
      rw [List.flatMap_cons, List.flatMap_cons]
      generalize lastV base (l.take 16) = L at *
      have u1 := (uvar_le (L - base - 1).toNat (by omega)).2
      have u2 := (uvar_le (blockB base (l.take 16)).length (by omega)).2
      refine ⟨?_, ?_⟩
      · simp only [List.length_append]; omega
      · simp only [List.length_append]; omega
theorem blks_le (n : Nat) (base : Int) (l : List PostV) : l.length ≤ n → FitP l → okV base l → -1 ≤ base → base < 2147483647 → totalV l ≤ 1000000000 →
    (headV (blksV base (chp l))).length ≤ 20 * l.length ∧ (bodyV (blksV base (chp l))).length ≤ 280 * l.length + 10 * totalV l := fun h1 h2 h3 h4 h5 h6 => by
  obtain ⟨g1, g2⟩ := blks_le2 n base l h1 h2 h3 h4 h5 h6
  omega
theorem image_le {l : List PostV} (hf : FitP l) (ok : okV (-1) l) (hl : l.length ≤ 31000000) (hT : totalV l ≤ 31000000) : (imageV l).length ≤ 1000000000 := by
  obtain ⟨h1, h2⟩ := blks_le2 _ (-1) l (Nat.le_refl _) hf ok (by omega) (by omega) (by omega)
  have u1 := (uvar_le l.length (by omega)).2
  have u2 := (uvar_le (totalV l) (by omega)).2
  unfold imageV
  rw [List.length_append, List.length_append, List.length_append]
  omega
theorem lastV_get : ∀ (base : Int) (l : List PostV) (h : l ≠ []), lastV base l = (l[l.length - 1]'(by have := List.length_pos_iff.2 h; omega)).doc
  | base, [p], _ => rfl
  | base, p :: q :: r, _ => by
    show lastV p.doc (q :: r) = _
    rw [lastV_get p.doc (q :: r) (by simp)]
    simp
/-- One block more. -/
theorem enc_step {base : Int} {l : List PostV} {at_ : Nat} (h : at_ < l.length) :
    headV (blksV base (chp (l.drop at_))) = (uvar (lastV base ((l.drop at_).take 16) - base - 1).toNat ++ uvar (blockB base ((l.drop at_).take 16)).length) ++ headV (blksV (lastV base ((l.drop at_).take 16)) (chp (l.drop (at_ + 16)))) ∧
    bodyV (blksV base (chp (l.drop at_))) = blockB base ((l.drop at_).take 16) ++ bodyV (blksV (lastV base ((l.drop at_).take 16)) (chp (l.drop (at_ + 16)))) := by
  have hne : l.drop at_ ≠ [] := fun e => by have := congrArg List.length e; rw [List.length_drop] at this; simp at this; omega
  rw [chp_cons hne, List.drop_drop]
  exact ⟨rfl, rfl⟩
theorem enc_end {base : Int} {l : List PostV} {at_ : Nat} (h : ¬ at_ < l.length) : headV (blksV base (chp (l.drop at_))) = [] ∧ bodyV (blksV base (chp (l.drop at_))) = [] := by
  rw [List.drop_of_length_le (by omega), chp_nil]
  exact ⟨rfl, rfl⟩
/-- A skip entry. -/
structure SkV where
  last : Int
  docs : Nat
  at_ : Nat
  size : Nat
def skV : Int → Nat → List (List PostV) → List SkV
  | _, _, [] => []
  | base, at_, c :: r => ⟨lastV base c, c.length, at_, (blockB base c).length⟩ :: skV (lastV base c) (at_ + (blockB base c).length) r
def hdS : Int → List SkV → List UInt8
  | _, [] => []
  | base, s :: r => (uvar (s.last - base - 1).toNat ++ uvar s.size) ++ hdS s.last r
theorem hdS_sk : ∀ (base : Int) (at_ : Nat) (cs : List (List PostV)), hdS base (skV base at_ cs) = headV (blksV base cs)
  | _, _, [] => rfl
  | base, at_, c :: r => by
    rw [skV, hdS, blksV, hdS_sk]
    rfl
theorem hdS_snoc : ∀ (base : Int) (l : List SkV) (s : SkV), hdS base (l ++ [s]) = hdS base l ++ (uvar (s.last - (l.map SkV.last).getLastD base - 1).toNat ++ uvar s.size)
  | base, [], s => by simp [hdS]
  | base, x :: r, s => by
    have hT : ((x :: r).map SkV.last).getLastD base = (r.map SkV.last).getLastD x.last := by cases r <;> simp [List.getLastD]
    rw [List.cons_append, hdS, hdS_snoc x.last r s, hdS, hT]
    simp only [List.append_assoc]
end Go.Proofs.YthnpbfadblcicaaDoor

/- posts: lists of skip entries of the call's own. -/
namespace Go.Proofs.YthnpbfadblcicaaDoor
set_option linter.unusedVariables false
open Go.ChangeShapes Go.WideShapes Go.ChangeAt Go.RowKit

def SkV.cells (s : SkV) : List Value := [.int .i64 s.last, .int .i64 (s.docs : Nat), .int .i64 (s.at_ : Nat), .int .i64 (s.size : Nat)]
def RowS (w : World) (base : Nat) (v : Value) (ss : List SkV) : Prop := w.ownsRow base 45 4 v ss.length (ss.flatMap SkV.cells)
theorem sk_len (s : SkV) : s.cells.length = 4 := rfl
theorem flat4 (ss : List SkV) : (ss.flatMap SkV.cells).length = ss.length * 4 := by
  induction ss with
  | nil => rfl
  | cons o ps ih => rw [List.flatMap_cons, List.length_append, ih, sk_len, List.length_cons]; omega
theorem flat4_get : ∀ (ss : List SkV) (i j : Nat) (h : i < ss.length) (v : Value), (ss[i]).cells[j]? = some v → (ss.flatMap SkV.cells)[i * 4 + j]? = some v
  | o :: ps, 0, j, _, v, hv => by
    have hj : j < 4 := (List.getElem?_eq_some_iff.1 hv).1
    rw [List.flatMap_cons, List.getElem?_append_left (by rw [sk_len]; omega)]
    simpa using hv
  | o :: ps, i + 1, j, h, v, hv => by
    rw [List.flatMap_cons, List.getElem?_append_right (by rw [sk_len]; omega), sk_len, show (i + 1) * 4 + j - 4 = i * 4 + j by omega]
    exact flat4_get ps i j (by simpa using h) v (by simpa using hv)
theorem RowS.sl {w : World} {base : Nat} {v : Value} {ss : List SkV} (h : RowS w base v ss) : ∃ a c, v = .slice a ss.length c := by
  rcases h.2 with ⟨rfl, h0⟩ | ⟨g, cap, cur, hv, _⟩
  · exact ⟨none, 0, by rw [h0]⟩
  · exact ⟨_, _, hv⟩
/-- Its cells. -/
theorem RowS.at_ {w : World} {base : Nat} {a : Option Addr} {n c : Nat} {ss : List SkV} (h : RowS w base (.slice a n c) ss) (i : Nat) (hi : i < ss.length) : ∃ g, a = some ⟨g, 0, none⟩ ∧ base ≤ g ∧ g < w.heap.size ∧ ∀ j v, (ss[i]).cells[j]? = some v → w.cell? ⟨g, i * 4 + j, none⟩ = some v := by
  rcases h.2 with ⟨hv, h0⟩ | ⟨g, cap, cur, hv, hb, hg, hn, _⟩
  · omega
  · have hc := World.ownsRow.cells h (g := g) (by rw [hv]; rfl)
    injection hv with e1 e2 e3
    subst e1
    refine ⟨g, rfl, hb, lt_of_heap hg, fun j v hvv => ?_⟩
    have := hc _ _ (flat4_get ss i j hi v hvv)
    rw [addr_add, Nat.zero_add] at this
    exact this
theorem RowS.eff {F : Nat → Prop} {w w' : World} {base : Nat} {v : Value} {ss : List SkV} (h : RowS w base v ss) (e : Eff F w w') (hF : ∀ k, v.ownBlock = some k → ¬ F k) : RowS w' base v ss := by
  refine ⟨h.1, ?_⟩
  rcases h.2 with hn | ⟨g, cap, cur, rfl, hb, hgg, rest⟩
  · exact .inl hn
  · exact .inr ⟨g, cap, cur, rfl, hb, (e.block g (lt_of_heap hgg) (hF g rfl)).trans hgg, rest⟩
theorem RowS.lt {w : World} {base : Nat} {v : Value} {ss : List SkV} (h : RowS w base v ss) : ∀ k, v.ownBlock = some k → base ≤ k ∧ k < w.heap.size := World.ownsRow.lt h
theorem RowS.below {B : Nat} {w w' : World} {base : Nat} {v : Value} {ss : List SkV} (h : RowS w base v ss) (hb : Below B w w') (hB : w.heap.size ≤ B) : RowS w' base v ss :=
  h.eff (F := fun k => B ≤ k) ⟨hb.os, hb.tape, hb.output, hb.size, fun k hk hn => hb.block k (by omega)⟩ (fun k hk => by have := (World.ownsRow.lt h k hk).2; omega)
theorem RowS.ne_type {w : World} {base : Nat} {v : Value} {ss : List SkV} {g : Nat} {cs : Array Value} {t : TypeId} {fr : Nat × Nat} (h : RowS w base v ss) (hg : w.heap[g]? = some (.cells cs t fr)) (hne : 45 ≠ t) : v.ownBlock ≠ some g := by
  rcases h.2 with ⟨rfl, _⟩ | ⟨g', cap, cur, rfl, _, hgg, _⟩
  · simp [Value.ownBlock]
  · intro he
    have he' : g' = g := by simpa [Value.ownBlock] using he
    subst he'
    rw [hgg] at hg
    injection hg with hg
    injection hg with _ ht
    exact hne ht
/-- A list of another type has another block. -/
theorem RowS.ne_own {w : World} {base b2 : Nat} {v y : Value} {ss : List SkV} {t : TypeId} {xs : List Value} (h : RowS w base v ss) (ho : Own w b2 t y xs) (hne : 45 ≠ t) {k : Nat} (hk : v.ownBlock = some k) : y.ownBlock ≠ some k := by
  rcases h.2 with ⟨rfl, _⟩ | ⟨g', cap, cur, rfl, _, hgg, _⟩
  · simp [Value.ownBlock] at hk
  · have he' : g' = k := by simpa [Value.ownBlock] using hk
    subst he'
    exact ho.ne_type hgg (fun e => hne e.symm)
theorem rowS_empty (w : World) (base : Nat) (h : base ≤ w.heap.size) : RowS (w.alloc (.cells #[] 45)) base (.slice (some ⟨w.heap.size, 0, none⟩) 0 0) [] :=
  ⟨rfl, .inr ⟨w.heap.size, 0, #[], rfl, h, heap_alloc_new w _, Nat.le_refl _, by unfold maxLen; omega, rfl, rfl⟩⟩
theorem sk_info : (Tryd.prog.info? 45).map (fun i => (i.size, i.bytes, (i.zero.map fun z => z.cells.size))) = some (4, 32, some 4) := by kernel_rfl
set_option maxRecDepth 100000 in
theorem apSk {w0 : World} {l : Int} {d t s : Nat} {base : Nat} {v : Value} {ss : List SkV} (hown : RowS w0 base v ss) (hlen : ss.length ≤ 1000000000) (hbase : base ≤ w0.heap.size)
    {ops : Array Oper} {rest : List Oper} {o : Oper} {a : Act} {Q : Exit → Act → World → Prop} (hgd : o.guard = none) (x y : Operand)
    (ho : o.op = .call { callee := .builtin .append, args := #[x, y], argTypes := #[37, 37] }) (hs : a.eval x = v) (hy : a.eval y = .slice (some ⟨w0.heap.size, 0, none⟩) 1 1)
    (h : ∀ v' w', RowS w' base v' (ss ++ [⟨l, d, t, s⟩]) → w0.grownBy w' v.ownBlock → wpList Tryd.prog ops Q rest (a.put o.dst v') w') :
    wpList Tryd.prog ops Q (o :: rest) a (w0.alloc (.cells #[.int .i64 l, .int .i64 (d : Nat), .int .i64 (t : Nat), .int .i64 (s : Nat)] 45)) := by
  obtain ⟨i0, hi, hrest⟩ := Option.map_eq_some_iff.1 sk_info
  simp only [Prod.mk.injEq] at hrest
  obtain ⟨h8, hby, hz⟩ := hrest
  obtain ⟨z, hz, hzs⟩ := Option.map_eq_some_iff.1 hz
  refine wpList_append_own (P := Tryd.prog) _ hgd x y 37 ho base 45 i0 z 4 32 Tryd.underlying37 hi hz h8 hby hzs (by decide) v ss.length _ hs (World.ownsRow.alloc hown _) ⟨w0.heap.size, 0, none⟩ 1 1
    (SkV.cells ⟨l, d, t, s⟩) hy rfl (fun j x hx => ?_) ?_ (by unfold maxLen; omega) (by omega) (by simp; omega) ?_
  · rw [addr_add, Nat.zero_add, blk_cell (heap_alloc_new w0 _) j]
    rw [← hx]; simp [SkV.cells]
  · intro x hx
    simp only [SkV.cells, List.mem_cons, List.not_mem_nil, or_false] at hx
    rcases hx with rfl | rfl | rfl | rfl <;> rfl
  · intro v' w' h1 h2 h3
    refine h v' w' ?_ ?_
    · unfold RowS; rw [List.flatMap_append, List.length_append]; simpa using h1
    · exact ⟨h2.os, h2.tape, h2.output, Nat.le_trans (by simp) h2.size, fun k hk hne => (h2.block k (by simp; omega) hne).trans (Below.heap_alloc _ _ _ hk)⟩
end Go.Proofs.YthnpbfadblcicaaDoor

/- concordhand: byteMark, and the look at a book's lists of bytes: where no two lie in one block it answers true. -/
namespace Go.Proofs.YthnpbfadblcicaaDoor
set_option linter.unusedVariables false
open Go.ChangeShapes Go.WideShapes Go.ChangeAt Go.RowKit

/-! ### Lists of lists -/
def Apart (ls : List Value) : Prop := ∀ (a b : Nat) (x y : Value) (k : Nat), ls[a]? = some x → ls[b]? = some y → a ≠ b → x.ownBlock = some k → y.ownBlock ≠ some k

/-- Each of ls is a list of elements e, the k-th holds C k. -/
def Each (w : World) (base : Nat) (e : TypeId) (ls : List Value) (C : Nat → List Value) : Prop := ∀ k x, ls[k]? = some x → Own w base e x (C k)

theorem each_at {w : World} {base : Nat} {e : TypeId} {ls : List Value} {D : Nat → List Value} (h : Each w base e ls D) {k : Nat} {x : Value} (hx : ls[k]? = some x) {xs : List Value} (hd : D k = xs) : Own w base e x xs := by
  rw [← hd]; exact h k x hx
theorem Each.congr {w : World} {base : Nat} {e : TypeId} {ls : List Value} {C D : Nat → List Value} (h : Each w base e ls C) (hc : ∀ k, k < ls.length → C k = D k) : Each w base e ls D :=
  fun k x hx => by rw [← hc k (List.getElem?_eq_some_iff.1 hx).1]; exact h k x hx

def marksOf (m : Nat → Nat → Value) (i n : Nat) : List Value := (List.range n).map (m i)
theorem marksOf_length (m : Nat → Nat → Value) (i n : Nat) : (marksOf m i n).length = n := by simp [marksOf]
theorem marksOf_succ (m : Nat → Nat → Value) (i n : Nat) : marksOf m i (n + 1) = marksOf m i n ++ [m i n] := by simp [marksOf, List.range_succ]
theorem marksOf_get (m : Nat → Nat → Value) (i n j : Nat) (h : j < n) : (marksOf m i n)[j]? = some (m i j) := by simp [marksOf, h]
theorem marksOf_add (m : Nat → Nat → Value) (i n k : Nat) : marksOf m i (n + k) = marksOf m i n ++ (List.range k).map (fun j => m i (n + j)) := by
  unfold marksOf
  rw [List.range_add, List.map_append, List.map_map]; rfl
def tailOf (m : Nat → Nat → Value) (i n k : Nat) : List Value := (List.range k).map fun j => m i (n + j)
theorem tailOf_length (m : Nat → Nat → Value) (i n k : Nat) : (tailOf m i n k).length = k := by simp [tailOf]
theorem tailOf_succ (m : Nat → Nat → Value) (i n k : Nat) : tailOf m i n (k + 1) = tailOf m i n k ++ [m i (n + k)] := by simp [tailOf, List.range_succ]
theorem marks_tail (m : Nat → Nat → Value) (i n k : Nat) : marksOf m i n ++ tailOf m i n k = marksOf m i (n + k) := (marksOf_add m i n k).symm
def partOf (m : Nat → Nat → Value) (i j : Nat) (xs : List Value) : List Value := marksOf m i j ++ xs.drop j
theorem partOf_zero (m : Nat → Nat → Value) (i : Nat) (xs : List Value) : partOf m i 0 xs = xs := by simp [partOf, marksOf]
theorem partOf_all (m : Nat → Nat → Value) (i : Nat) (xs : List Value) : partOf m i xs.length xs = marksOf m i xs.length := by simp [partOf]
theorem partOf_full (m : Nat → Nat → Value) (i : Nat) {xs : List Value} {n : Nat} (h : xs.length = n) : partOf m i n xs = marksOf m i xs.length := by subst h; exact partOf_all m i xs
theorem partOf_length (m : Nat → Nat → Value) (i j : Nat) (xs : List Value) (h : j ≤ xs.length) : (partOf m i j xs).length = xs.length := by simp [partOf, marksOf]; omega
theorem partOf_set (m : Nat → Nat → Value) (i j : Nat) (xs : List Value) (h : j < xs.length) : (partOf m i j xs).set j (m i j) = partOf m i (j + 1) xs := by
  unfold partOf
  rw [List.set_append_right _ _ (by rw [marksOf_length]; exact Nat.le_refl _), marksOf_length, Nat.sub_self, marksOf_succ, List.drop_eq_getElem_cons h, List.set_cons_zero, List.append_assoc]; rfl

/-! ### The marks -/
def bmN (i j : Nat) : Nat := (i * 37 + j * 11 + 1 + i * j % 5) % 256
def bmV (i j : Nat) : Value := .int .u8 ((bmN i j : Nat) : Int)
theorem bmV_one (i j : Nat) : (bmV i j).oneCell' = true := rfl

theorem elLists : Elem Tryd.prog 67 24 (.slice none 0 0) 24 := ⟨Tryd.underlying67, by kernel_rfl, rfl, by decide⟩
theorem each_store {w : World} {base : Nat} {e : TypeId} {ls : List Value} {D : Nat → List Value} (h : Each w base e ls D) (ha : Apart ls) {i g n c : Nat} (hi : ls[i]? = some (.slice (some ⟨g, 0, none⟩) n c)) (j : Nat) (u : Value) :
    Each (w.setCell ⟨g, j, none⟩ u) base e ls (fun k => if k = i then (D i).set j u else D k) := by
  intro k x hx
  by_cases hk : k = i
  · subst hk
    rw [hi] at hx
    injection hx with hx
    subst hx
    dsimp only
    rw [if_pos rfl]
    exact (h k _ hi).set j u
  · dsimp only
    rw [if_neg hk]
    exact (h k x hx).setOther (ha i k _ x g hi hx (fun e => hk e.symm) rfl) u

/-- v lies in no block of a list of ls but the i-th. -/
def Off (v : Value) (ls : List Value) (i : Nat) : Prop := ∀ (b : Nat) (y : Value) (k : Nat), b ≠ i → ls[b]? = some y → v.ownBlock = some k → y.ownBlock ≠ some k
theorem off_new {v v' : Value} {ls : List Value} {i B : Nat} (h : Off v ls i) (hv : v'.ownBlock = v.ownBlock ∨ v'.ownBlock = some B) (hB : ∀ (b : Nat) (y : Value) (k : Nat), ls[b]? = some y → y.ownBlock = some k → k < B) : Off v' ls i := by
  intro b y k hb hy hk hyk
  rcases hv with hv | hv
  · exact h b y k hb hy (hv ▸ hk) hyk
  · rw [hv] at hk
    injection hk with hk
    have := hB b y k hy hyk
    omega
theorem Each.lt {w : World} {base : Nat} {e : TypeId} {ls : List Value} {D : Nat → List Value} (h : Each w base e ls D) : ∀ (b : Nat) (y : Value) (k : Nat), ls[b]? = some y → y.ownBlock = some k → k < w.heap.size :=
  fun b y k hy hk => ((h b y hy).lt k hk).2
theorem Each.keeps {w w' : World} {base : Nat} {e : TypeId} {ls : List Value} {D : Nat → List Value} (h : Each w base e ls D) {v : Value} {n i : Nat} (hk : Keeps w w' v n) (ho : Off v ls i) (hi : ∀ x, ls[i]? = some x → (D i).length ≤ n) : Each w' base e ls D := by
  intro b y hy
  refine hk _ _ _ _ (h b y hy) fun k h1 h2 => ?_
  by_cases hb : b = i
  · subst hb; exact hi y hy
  · exact absurd h2 (ho b y k hb hy h1)
theorem Each.below {w w' : World} {base : Nat} {e : TypeId} {ls : List Value} {D : Nat → List Value} (h : Each w base e ls D) (hb : Below w.heap.size w w') : Each w' base e ls D :=
  fun k x hx => (h k x hx).below hb (Nat.le_refl _)
theorem Each.drewN {w : World} {base : Nat} {e : TypeId} {ls : List Value} {D : Nat → List Value} (h : Each w base e ls D) (n : Nat) : Each (w.drewN n) base e ls D := fun k x hx => (h k x hx).drewN n
theorem each_snoc {w : World} {base : Nat} {e : TypeId} {ls : List Value} {D : Nat → List Value} {v : Value} (h : Each w base e ls D) (hv : Own w base e v (D ls.length)) : Each w base e (ls ++ [v]) D := by
  intro k x hx
  rcases Nat.lt_trichotomy k ls.length with hk | hk | hk
  · rw [List.getElem?_append_left hk] at hx; exact h k x hx
  · subst hk
    rw [List.getElem?_append_right (Nat.le_refl _), Nat.sub_self] at hx
    simp at hx
    rw [← hx]; exact hv
  · rw [List.getElem?_eq_none (by simp; omega)] at hx; cases hx
theorem off_snoc {v x : Value} {ls : List Value} {i : Nat} (h : Off v ls i) (hx : ls.length ≠ i → ∀ k, v.ownBlock = some k → x.ownBlock ≠ some k) : Off v (ls ++ [x]) i := by
  intro b y k hb hy hk
  rcases Nat.lt_trichotomy b ls.length with hl | hl | hl
  · rw [List.getElem?_append_left hl] at hy; exact h b y k hb hy hk
  · subst hl
    rw [List.getElem?_append_right (Nat.le_refl _), Nat.sub_self] at hy
    simp at hy
    rw [← hy]; exact hx hb k hk
  · rw [List.getElem?_eq_none (by simp; omega)] at hy; cases hy
theorem apart_snoc {ls : List Value} {v : Value} (h : Apart ls) (hv : Off v ls ls.length) : Apart (ls ++ [v]) := by
  intro a b x y k hx hy hab hk
  have get : ∀ (c : Nat) (z : Value), (ls ++ [v])[c]? = some z → (c < ls.length ∧ ls[c]? = some z) ∨ (c = ls.length ∧ z = v) := by
    intro c z hz
    rcases Nat.lt_trichotomy c ls.length with hl | hl | hl
    · rw [List.getElem?_append_left hl] at hz; exact .inl ⟨hl, hz⟩
    · subst hl
      rw [List.getElem?_append_right (Nat.le_refl _), Nat.sub_self] at hz
      simp at hz
      exact .inr ⟨rfl, hz.symm⟩
    · rw [List.getElem?_eq_none (by simp; omega)] at hz; cases hz
  rcases get a x hx with ⟨ha, hx1⟩ | ⟨ha, hx1⟩
  · rcases get b y hy with ⟨hb, hy1⟩ | ⟨hb, hy1⟩
    · exact h a b x y k hx1 hy1 hab hk
    · intro hk2; rw [hy1] at hk2; exact hv a x k (by omega) hx1 hk2 hk
  · rw [hx1] at hk
    rcases get b y hy with ⟨hb, hy1⟩ | ⟨hb, hy1⟩
    · exact hv b y k (by omega) hy1 hk
    · omega

/-- The blocks of the lists. -/
def BlocksOf (ls : List Value) (b : Nat) : Prop := ∃ (k : Nat) (x : Value), ls[k]? = some x ∧ x.ownBlock = some b

end Go.Proofs.YthnpbfadblcicaaDoor
