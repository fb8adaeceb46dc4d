/- The law's walked: a walk over a dictionary's entries tells their numbers, up to where it is stopped. -/
import Derived.Test.YtejmjjgbbojfbaaDoorZTermsF
import Derived.Test.YtejmjjgbbojfbaaDoorZG10
import Derived.Test.YtejmjjgbbojfbaaDoorZG10
import Derived.Test.YtejmjjgbbojfbaaDoorZG11
import Derived.Test.YtejmjjgbbojfbaaDoorZG12
import Derived.Sort.QuietTacIn
import Derived.Outline
namespace Go.Proofs.YtejmjjgbbojfbaaDoor
set_option linter.unusedVariables false
open Go.ChangeShapes Go.WideShapes Go.ChangeAt Go.RowKit Go.Shelf
attribute [local go_sem] Oper.semAt_some

/-- append(v, x) inside a fence. -/
theorem ap1In {F : Fence} {n0 : Nat} {P : Program} {t e : TypeId} {z : Value} {bytes : Nat} (E : Elem P t e z bytes) {w0 : World} {x : Value} (hx1 : x.oneCell' = true)
    {base : Nat} {v : Value} {xs : List Value} (hown : Own w0 base e v xs) (hlen : xs.length < 1000000000000) (hbase : base ≤ w0.heap.size)
    {ops : Array Oper} {rest : List Oper} {o : Oper} {a : Act} {Q : Exit → Act → World → Prop} (hgd : o.guard = none) (s y : Operand)
    (ho : o.op = .call { callee := .builtin .append, args := #[s, y], argTypes := #[t, t] }) (hs : a.eval s = v) (hy : a.eval y = .slice (some ⟨w0.heap.size, 0, none⟩) 1 1)
    (h : ∀ v' w', Own w' base e v' (xs ++ [x]) → w0.grownBy w' v.ownBlock → wpListIn F n0 P ops Q rest (a.put o.dst v') w') : wpListIn F n0 P ops Q (o :: rest) a (w0.alloc (.cells #[x] e)) := by
  refine wpListIn_plain hgd fun K hK' => ?_
  obtain ⟨v', w', hr, h2, h3, h4, h5⟩ := run_app E o.type (hown.alloc (.cells #[x] e)) (s := .slice (some ⟨w0.heap.size, 0, none⟩) 1 1) (news := [x]) ⟨_, 1, rfl, Nat.le_refl _, fun _ => ⟨w0.heap.size, 0, rfl, fun j u hj => by
    match j, hj with
    | 0, hj => simp at hj; subst hj; simp
    | j + 1, hj => simp at hj⟩⟩ (fun u hu => by simp at hu; subst hu; exact hx1) (by simp; omega) (by simp; omega)
  unfold Oper.wpIn
  refine ⟨?_, ?_⟩
  · simp [Oper.about, ho, resolve, Target.leads, Sem.run_pure]
  · rw [Oper.semAt_plain F _ _ (by rw [ho]; intro c hc'; cases hc')]
    simp [execOp, ho, resolve, invoke, builtin, hs, hy, hr, Result.andThen]
    exact hK' _ _ (h v' w' h2 ⟨h4.os, h4.tape, h4.output, Nat.le_trans (by simp) h4.size, fun k hk hne => (h4.block k (by simp; omega) hne).trans (Below.heap_alloc _ _ _ hk)⟩)
theorem termsf_nil (cb : Array Value) (w : World) : (binOp .eql 122 (.func (.func 76) #[] cb) .nilFunc).run Tryd.prog w = .ok (.bool false) w := by kernel_rfl
/-- The blocks below a loop's beginning stay, where no other than a block of no cells from there on turns. -/
theorem own_blkT {B k : Nat} {W W' : World} {row : Option Nat} {o : Obj} (hk : k < B) (h : W.heap[k]? = some o) (hg : W.grownBy W' row) (hr : ∀ r, row = some r → B ≤ r ∧ ∃ o : Obj, W.heap[r]? = some o ∧ o.isCells = false) : W'.heap[k]? = some o :=
  (hg.block k (lt_of_heap h) (fun e => by have := (hr k e.symm).1; omega)).trans h
theorem own_cellsT {B k : Nat} {W W' : World} {row : Option Nat} {cs : Array Value} {t : TypeId} {fr : Nat × Nat} (h : W.heap[k]? = some (.cells cs t fr)) (hg : W.grownBy W' row) (hr : ∀ r, row = some r → B ≤ r ∧ ∃ o : Obj, W.heap[r]? = some o ∧ o.isCells = false) : W'.heap[k]? = some (.cells cs t fr) :=
  (hg.block k (lt_of_heap h) (fun e => by
    obtain ⟨_, o, ho, hc⟩ := hr k e.symm
    rw [h] at ho
    injection ho with ho
    subst ho
    cases hc)).trans h
theorem own_rowT {B : Nat} {W W' : World} {row : Option Nat} {base : Nat} {e : TypeId} {v : Value} {xs : List Value} (h : Own W base e v xs) (hg : W.grownBy W' row) (hr : ∀ r, row = some r → B ≤ r ∧ ∃ o : Obj, W.heap[r]? = some o ∧ o.isCells = false) : Own W' base e v xs := by
  rcases h with ⟨h1, h2⟩ | ⟨g, cap, cur, h1, h2, h3, h4, h5, h6, h7⟩
  · exact .inl ⟨h1, h2⟩
  · exact .inr ⟨g, cap, cur, h1, h2, own_cellsT h3 hg hr, h4, h5, h6, h7⟩
/-- All entries told so far are those of their numbers. -/
def goodL (es : List EntV) (pre : List (Nat × EntV)) : Bool := pre.all fun x => decide (x.1 < es.length) && entEq (entD es x.1) x.2
theorem goodL_snoc (es : List EntV) (pre : List (Nat × EntV)) (x : Nat × EntV) : goodL es (pre ++ [x]) = (goodL es pre && (decide (x.1 < es.length) && entEq (entD es x.1) x.2)) := by simp [goodL]
theorem goodL_terms (M : Mach) (h : List UInt8) (es : List EntV) {k : Nat} (hk : k ≤ es.length) : goodL es (termsP M h es k) = true := by
  unfold goodL
  rw [List.all_eq_true]
  intro x hx
  unfold termsP at hx
  obtain ⟨i, hi, rfl⟩ := List.mem_map.1 hx
  have hi := List.mem_range.1 (List.mem_filter.1 hi).1
  rw [decide_eq_true (by omega), (entEq_iff _ _).2 rfl]; rfl
def numsL (pre : List (Nat × EntV)) : List Nat := pre.map (·.1)
theorem numsL_snoc (pre : List (Nat × EntV)) (x : Nat × EntV) : numsL (pre ++ [x]) = numsL pre ++ [x.1] := by simp [numsL]
theorem numsL_len (pre : List (Nat × EntV)) : (numsL pre).length = pre.length := by simp [numsL]
/-- What walked's boxes hold behind some entries. -/
structure IW (z q p : Nat) (h : ByteArray) (stop : Int) (g : Bool) (pre : List (Nat × EntV)) (W : World) : Prop where
  t5 : W.heap[z + 1 + 1 + 1 + 1 + 1]? = some (.cells #[.pointer (some ⟨p, 0, none⟩)] 27 (0, 0))
  t6 : W.heap[z + 1 + 1 + 1 + 1 + 1 + 1]? = some (.cells #[.pointer (some ⟨q, 0, none⟩)] 68 (0, 0))
  t7 : W.heap[z + 1 + 1 + 1 + 1 + 1 + 1 + 1]? = some (.cells #[.string h] 9 (0, 0))
  c5 : W.heap[z]? = some (.cells #[.pointer (some ⟨q, 0, none⟩)] 68 (0, 0))
  c7 : W.heap[z + 1]? = some (.cells #[.int .i64 stop] 3 (0, 0))
  c11 : W.heap[z + 1 + 1 + 1 + 1]? = some (.cells #[.bool g] 4 (0, 0))
  c10 : ∃ (A : Option Addr) (C : Nat), W.heap[z + 1 + 1 + 1]? = some (.cells #[.slice A pre.length C] 52 (0, 0)) ∧ Own W (z + 1 + 1) 3 (.slice A pre.length C) (natsV (numsL pre))
theorem IW.own {z q p : Nat} {h : ByteArray} {stop : Int} {g : Bool} {pre : List (Nat × EntV)} {W W' : World} {B : Nat} {row : Option Nat} (k : IW z q p h stop g pre W) (hg : W.grownBy W' row) (hr : ∀ r, row = some r → B ≤ r ∧ ∃ o : Obj, W.heap[r]? = some o ∧ o.isCells = false) : IW z q p h stop g pre W' := by
  obtain ⟨k5, k6, k7, h1, h2, h3, A, C, h4, h5⟩ := k
  exact ⟨own_cellsT k5 hg hr, own_cellsT k6 hg hr, own_cellsT k7 hg hr, own_cellsT h1 hg hr, own_cellsT h2 hg hr, own_cellsT h3 hg hr, A, C, own_cellsT h4 hg hr, own_rowT h5 hg hr⟩
theorem IW.below {z q p : Nat} {h : ByteArray} {stop : Int} {g : Bool} {pre : List (Nat × EntV)} {W W' : World} (k : IW z q p h stop g pre W) (hb : Below W.heap.size W W') : IW z q p h stop g pre W' := by
  obtain ⟨k5, k6, k7, h1, h2, h3, A, C, h4, h5⟩ := k
  exact ⟨(hb.block _ (lt_of_heap k5)).trans k5, (hb.block _ (lt_of_heap k6)).trans k6, (hb.block _ (lt_of_heap k7)).trans k7, (hb.block _ (lt_of_heap h1)).trans h1, (hb.block _ (lt_of_heap h2)).trans h2, (hb.block _ (lt_of_heap h3)).trans h3, A, C, (hb.block _ (lt_of_heap h4)).trans h4, h5.below hb (Nat.le_refl _)⟩
/-- Two worlds with the same boxes of the iterator. -/
theorem IW.kp {z q p : Nat} {h : ByteArray} {stop : Int} {g g' : Bool} {pre pre' : List (Nat × EntV)} {W W' : World} {n0 : Nat} (k : IW z q p h stop g pre W) (k' : IW z q p h stop g' pre' W') (hb : Below n0 W W') : KpT n0 (z + 1 + 1 + 1 + 1 + 1 + 1) (z + 1 + 1 + 1 + 1 + 1 + 1 + 1) (z + 1 + 1 + 1 + 1 + 1) W W' :=
  ⟨hb, k'.t6.trans k.t6.symm, k'.t7.trans k.t7.symm, k'.t5.trans k.t5.symm⟩
theorem keepsT_below {W W' : World} (h : Below W.heap.size W W') : KeepsOthers W W' := ⟨h.size, fun k o hk _ => (h.block k (lt_of_heap hk)).trans hk⟩
theorem keepsT_grown {W W' : World} {row : Option Nat} (hg : W.grownBy W' row) (hr : ∀ r, row = some r → ∃ cs t f, W.heap[r]? = some (.cells cs t f)) : KeepsOthers W W' :=
  ⟨hg.size, fun k o hk ho => (hg.block k (lt_of_heap hk) (fun e => by
    obtain ⟨cs, t, f, h⟩ := hr k e.symm
    rw [hk] at h
    injection h with h
    subst h
    cases ho)).trans hk⟩
theorem own_typedT {w : World} {B : Nat} {t : TypeId} {v : Value} {xs : List Value} (h : Own w B t v xs) {k : Nat} (hk : v.ownBlock = some k) : ∃ cs t f, w.heap[k]? = some (.cells cs t f) := by
  rcases h with ⟨rfl, _⟩ | ⟨g, cap, cur, rfl, h2, h3, _⟩
  · cases hk
  · have : g = k := by simpa [Value.ownBlock] using hk
    subst this
    exact ⟨_, _, _, h3⟩
theorem al1T {W : World} (o : Obj) {k : Nat} {v : Obj} (h : W.heap[k]? = some v) : (W.alloc o).heap[k]? = some v := (Below.heap_alloc W o k (lt_of_heap h)).trans h
theorem newT {W : World} (o : Obj) {k : Nat} (h : W.heap.size = k) : (W.alloc o).heap[k]? = some o := by subst h; exact heap_alloc_new W o
theorem al8 (w : World) (o0 o1 o2 o3 o4 o5 o6 o7 : Obj) {W : World} (hW : W = (((((((w.alloc o0).alloc o1).alloc o2).alloc o3).alloc o4).alloc o5).alloc o6).alloc o7) :
    W.heap.size = w.heap.size + 1 + 1 + 1 + 1 + 1 + 1 + 1 + 1 ∧ Below w.heap.size w W ∧ W.heap[w.heap.size]? = some o0 ∧ W.heap[w.heap.size + 1]? = some o1 ∧ W.heap[w.heap.size + 1 + 1]? = some o2 ∧ W.heap[w.heap.size + 1 + 1 + 1]? = some o3 ∧ W.heap[w.heap.size + 1 + 1 + 1 + 1]? = some o4 ∧
      W.heap[w.heap.size + 1 + 1 + 1 + 1 + 1]? = some o5 ∧ W.heap[w.heap.size + 1 + 1 + 1 + 1 + 1 + 1]? = some o6 ∧ W.heap[w.heap.size + 1 + 1 + 1 + 1 + 1 + 1 + 1]? = some o7 := by
  subst hW
  have b : ∀ (W : World) (o : Obj), Below w.heap.size w W → Below w.heap.size w (W.alloc o) := fun W o h => h.alloc h.size o
  refine ⟨by simp, b _ _ (b _ _ (b _ _ (b _ _ (b _ _ (b _ _ (b _ _ (b _ _ (Below.refl _ _)))))))), ?_, ?_, ?_, ?_, ?_, ?_, ?_, newT o7 (by simp)⟩
  · exact al1T _ (al1T _ (al1T _ (al1T _ (al1T _ (al1T _ (al1T _ (newT o0 rfl)))))))
  · exact al1T _ (al1T _ (al1T _ (al1T _ (al1T _ (al1T _ (newT o1 (by simp)))))))
  · exact al1T _ (al1T _ (al1T _ (al1T _ (al1T _ (newT o2 (by simp))))))
  · exact al1T _ (al1T _ (al1T _ (al1T _ (newT o3 (by simp)))))
  · exact al1T _ (al1T _ (al1T _ (newT o4 (by simp))))
  · exact al1T _ (al1T _ (newT o5 (by simp)))
  · exact al1T _ (newT o6 (by simp))
theorem IW.mark {z q p : Nat} {h : ByteArray} {stop : Int} {g : Bool} {pre : List (Nat × EntV)} {W : World} (k : IW z q p h stop g pre W) (g' : Bool) : IW z q p h stop g' pre (W.setCell ⟨z + 1 + 1 + 1 + 1, 0, none⟩ (.bool g')) := by
  obtain ⟨k5, k6, k7, h1, h2, h3, A, C, h4, h5⟩ := k
  have o : ∀ {i : Nat} {v : Obj}, i ≠ z + 1 + 1 + 1 + 1 → W.heap[i]? = some v → (W.setCell ⟨z + 1 + 1 + 1 + 1, 0, none⟩ (.bool g')).heap[i]? = some v := fun hi hv => (Below.heap_setCell W ⟨z + 1 + 1 + 1 + 1, 0, none⟩ _ _ hi).trans hv
  exact ⟨o (by omega) k5, o (by omega) k6, o (by omega) k7, o (by omega) h1, o (by omega) h2, blk_set h3 0 _, A, C, o (by omega) h4, h5.setOther (p := ⟨z + 1 + 1 + 1 + 1, 0, none⟩) (h5.ne_type h3 (by decide)) _⟩
/-- One entry's number put behind the others. -/
theorem IW.push {z q p : Nat} {h : ByteArray} {stop : Int} {g : Bool} {pre : List (Nat × EntV)} {W W9 : World} (k : IW z q p h stop g pre W) {A : Option Addr} {C : Nat} (h4 : W.heap[z + 1 + 1 + 1]? = some (.cells #[.slice A pre.length C] 52 (0, 0))) (h5 : Own W (z + 1 + 1) 3 (.slice A pre.length C) (natsV (numsL pre)))
    (x : Nat × EntV) {A9 : Option Addr} {C9 : Nat} (hO : Own W9 (z + 1 + 1) 3 (.slice A9 (pre.length + 1) C9) (natsV (numsL pre) ++ [.int .i64 (x.1 : Nat)])) (hg : W.grownBy W9 (Value.slice A pre.length C).ownBlock) :
    IW z q p h stop g (pre ++ [x]) (W9.setCell ⟨z + 1 + 1 + 1, 0, none⟩ (.slice A9 (pre.length + 1) C9)) ∧ W9.heap[z + 1 + 1 + 1]? = some (.cells #[.slice A pre.length C] 52 (0, 0)) ∧ W9.heap[z + 1]? = some (.cells #[.int .i64 stop] 3 (0, 0)) := by
  obtain ⟨k5, k6, k7, h1, h2, h3, -⟩ := k
  have low : ∀ {i : Nat} {v : Obj}, i < z + 1 + 1 → W.heap[i]? = some v → W9.heap[i]? = some v := fun hi hv => (hg.block _ (lt_of_heap hv) (fun e => by have := (h5.lt _ e.symm).1; omega)).trans hv
  have typ : ∀ {i : Nat} {cs : Array Value} {t : TypeId}, t ≠ 3 → W.heap[i]? = some (.cells cs t (0, 0)) → W9.heap[i]? = some (.cells cs t (0, 0)) := fun ht hv => (hg.block _ (lt_of_heap hv) (fun e => h5.ne_type hv (fun e9 => ht e9.symm) e.symm)).trans hv
  have o : ∀ {i : Nat} {v : Obj}, i ≠ z + 1 + 1 + 1 → W9.heap[i]? = some v → (W9.setCell ⟨z + 1 + 1 + 1, 0, none⟩ (.slice A9 (pre.length + 1) C9)).heap[i]? = some v := fun hi hv => (Below.heap_setCell W9 ⟨z + 1 + 1 + 1, 0, none⟩ _ _ hi).trans hv
  have h49 := typ (by decide) h4
  refine ⟨⟨o (by omega) (typ (by decide) k5), o (by omega) (typ (by decide) k6), o (by omega) (typ (by decide) k7), o (by omega) (low (by omega) h1), o (by omega) (low (by omega) h2), o (by omega) (typ (by decide) h3), A9, C9, ?_, ?_⟩, h49, low (by omega) h2⟩
  · rw [List.length_append]; exact blk_set h49 0 _
  · rw [List.length_append, numsL_snoc, natsV_snoc]
    exact hO.setOther (p := ⟨z + 1 + 1 + 1, 0, none⟩) (hO.ne_type h49 (by decide)) _
/-- What walked answers. -/
def stopL (H : List Nat) (stop : Int) : List Nat := if 1 ≤ stop ∧ stop ≤ (H.length : Int) then H.take stop.toNat else H
def WalkedPost (w : World) (H : List Nat) (stop : Int) (e : Ending) (w' : World) : Prop := ∃ (A : Option Addr) (C : Nat), e = .returned (.tuple #[.slice A (stopL H stop).length C, .bool true]) ∧ Own w' w.heap.size 3 (.slice A (stopL H stop).length C) (natsV (stopL H stop)) ∧ Below w.heap.size w w'
set_option maxRecDepth 100000 in
set_option maxHeartbeats 8000000 in
theorem walked_any (w : World) (base q : Nat) (v : Value) (es : List EntV) (hD : DictAt w base q v es) (hri : rising none es) (hel : es.length ≤ 1000000) (hks : ∀ (i : Nat) (hi : i < es.length), es[i].k.size ≤ 65) (p : Nat) (M : Mach) (hA : IsAuto w p M) (h : ByteArray) (stop : Int) :
    Calls Tryd.prog 40 #[.pointer (some ⟨p, 0, none⟩), .pointer (some ⟨q, 0, none⟩), .string h, .int .i64 stop] w (WalkedPost w (numsL (termsP M h.data.toList es es.length)) stop) := by
  have HD := Lib.hid hD
  have HRI := Lib.hid hri
  have HKS := Lib.hid hks
  have HA := Lib.hid hA
  clear hD hri hks hA
  refine (callsIn_wide (n := 5)).1 ?_
  refine callsIn_of_wp_marks Tryd.func40 rfl trivial ?_ rfl
  simp only [Tryd.ntmps40, List.size_toArray, List.length_cons, List.length_nil, Nat.reduceAdd, Nat.reduceSub, Array.replicate_succ, Array.replicate_zero, List.push_toArray, List.append_toArray, List.nil_append, List.cons_append]
  have hfn := fun cb => termsf_nil cb
  gi_wp2_with (refine ⟨trivial, ?_⟩; gi_at_call 60; refine (callsIn_wide.2 (terms_any _ p q h)).mono ?_; rintro e w' ⟨rfl, rfl⟩)
  clear hfn
  obtain ⟨W0, hW0⟩ : ∃ W0, W0 = (((((((w.alloc (.cells #[.pointer (some ⟨q, 0, none⟩)] 68)).alloc (.cells #[.int .i64 stop] 3)).alloc (.cells #[] 3)).alloc (.cells #[.slice (some ⟨w.heap.size + 1 + 1, 0, none⟩) 0 0] 52)).alloc (.cells #[.bool true] 4)).alloc (.cells #[.pointer (some ⟨p, 0, none⟩)] 27)).alloc (.cells #[.pointer (some ⟨q, 0, none⟩)] 68)).alloc (.cells #[.string h] 9) := ⟨_, rfl⟩
  rw [← hW0]
  obtain ⟨hz, hB0, g5, g7, g2, g10, g11, t5, t6, t7⟩ := al8 w _ _ _ _ _ _ _ _ hW0
  clear hW0
  have hiw : IW w.heap.size q p h stop true [] W0 := ⟨t5, t6, t7, g5, g7, g11, _, _, g10, .inr ⟨w.heap.size + 1 + 1, 0, #[], rfl, Nat.le_refl _, g2, Nat.le_refl _, Nat.zero_le _, by decide, rfl⟩⟩
  rename_i KK hKK
  have HKC := Lib.hid hKK
  clear hKK
  have hlen := termsP_len M h.data.toList es es.length
  refine wpIn_rangeFunc_ownH (F := Fence.wide) (n := 5) rfl (by omega) (gf := 76) (lb := #[.pointer (some ⟨w.heap.size + 1 + 1 + 1 + 1 + 1 + 1, 0, none⟩), .pointer (some ⟨w.heap.size + 1 + 1 + 1 + 1 + 1 + 1 + 1, 0, none⟩), .pointer (some ⟨w.heap.size + 1 + 1 + 1 + 1 + 1, 0, none⟩)]) rfl trivial (enters_of Tryd.func76 (by kernel_rfl) rfl)
    (terms_stops 4 (by omega) w base q v es HD.out HRI.out hel HKS.out p M HA.out h _ _ _ W0 hB0 t6 t7 t5) (fun h k => KpT.trans h k) (KpT.putObj (by omega) (by omega) (by omega) (by omega)) (Below.refl _ _) (fun _ => rfl)
    (fun pre W => (IW w.heap.size q p h stop (goodL es pre) pre W ∧ (∀ k : Nat, k ≤ pre.length → 1 ≤ k → (k : Int) ≠ stop) ∧ W0.heap.size ≤ W.heap.size) ∧ Below w.heap.size w W)
    (fun cd pre W => (cd = .exit 0 ∧ (pre.length : Int) = stop ∧ 1 ≤ pre.length ∧ IW w.heap.size q p h stop (goodL es pre) pre W) ∧ Below w.heap.size w W)
    (fun s A B row hs hg hr => ⟨⟨hs.1.1.own hg hr, hs.1.2.1, Nat.le_trans hs.1.2.2 hg.size⟩, (ownFrom_below (β := Unit) (Nat.le_refl _) (by omega)) () A B row hs.2 hg hr⟩)
    (fun cd s A B row hs hg hr => ⟨⟨hs.1.1, hs.1.2.1, hs.1.2.2.1, hs.1.2.2.2.own hg hr⟩, (ownFrom_below (β := Unit) (Nat.le_refl _) (by omega)) () A B row hs.2 hg hr⟩)
    ⟨⟨hiw, fun k h1 h2 => absurd h1 (by simp; omega), Nat.le_refl _⟩, hB0⟩
    (fun x a' W => ∃ Bx, a' = { tmps := #[.pointer (some ⟨p, 0, none⟩), .pointer (some ⟨q, 0, none⟩), .string h, .int .i64 stop, undef, .pointer (some ⟨w.heap.size, 0, none⟩), undef, .pointer (some ⟨w.heap.size + 1, 0, none⟩), .slice none 0 0, .bool false, .pointer (some ⟨w.heap.size + 1 + 1 + 1, 0, none⟩), .pointer (some ⟨w.heap.size + 1 + 1 + 1 + 1, 0, none⟩), .func (.func 76) #[] #[.pointer (some ⟨w.heap.size + 1 + 1 + 1 + 1 + 1 + 1, 0, none⟩), .pointer (some ⟨w.heap.size + 1 + 1 + 1 + 1 + 1 + 1 + 1, 0, none⟩), .pointer (some ⟨w.heap.size + 1 + 1 + 1 + 1 + 1, 0, none⟩)], .int .i64 (x.1 : Nat), .pointer (some ⟨Bx, 0, none⟩), undef, undef, .slice (some ⟨w.heap.size + 1 + 1, 0, none⟩) 0 0, .pointer (some ⟨p, 0, none⟩), .pointer (some ⟨q, 0, none⟩), .string h, .func (.func 76) #[] #[.pointer (some ⟨w.heap.size + 1 + 1 + 1 + 1 + 1 + 1, 0, none⟩), .pointer (some ⟨w.heap.size + 1 + 1 + 1 + 1 + 1 + 1 + 1, 0, none⟩), .pointer (some ⟨w.heap.size + 1 + 1 + 1 + 1 + 1, 0, none⟩)], .func (.func 76) #[] #[.pointer (some ⟨w.heap.size + 1 + 1 + 1 + 1 + 1 + 1, 0, none⟩), .pointer (some ⟨w.heap.size + 1 + 1 + 1 + 1 + 1 + 1 + 1, 0, none⟩), .pointer (some ⟨w.heap.size + 1 + 1 + 1 + 1 + 1, 0, none⟩)], .bool false, undef, .func (.func 76) #[] #[.pointer (some ⟨w.heap.size + 1 + 1 + 1 + 1 + 1 + 1, 0, none⟩), .pointer (some ⟨w.heap.size + 1 + 1 + 1 + 1 + 1 + 1 + 1, 0, none⟩), .pointer (some ⟨w.heap.size + 1 + 1 + 1 + 1 + 1, 0, none⟩)], .int .i64 (x.1 : Nat), .agg #[.string x.2.k, .int .i64 x.2.d, .int .i64 x.2.t, .int .i64 x.2.a, .int .i64 x.2.s], undef, undef, undef, undef, undef, undef, undef, undef, undef, undef, undef, undef, undef, undef, undef, undef, undef, undef, undef, undef, undef, undef, undef, undef, undef], defers := [] } ∧ W.heap[Bx]? = some (.cells #[.string x.2.k, .int .i64 x.2.d, .int .i64 x.2.t, .int .i64 x.2.a, .int .i64 x.2.s] 116 (0, 0)))
    (fun x a' s A B row hs hg hr => by obtain ⟨Bx, e, hb⟩ := hs; exact ⟨Bx, e, own_cellsT hb hg hr⟩) ?assign ?body ?done ?stop
  case assign =>
    intro l pre x W K hI hK
    obtain ⟨⟨hiw, hst, hzz⟩, hB⟩ := hI
    have hzW := hB.size
    have HKK := Lib.hid hK
    have HIW := Lib.hid hiw
    have HST := Lib.hid hst
    clear hK hiw hst
    unfold encE
    gi_wp2
    have hal : Below W.heap.size W (W.alloc (.cells #[.string x.2.k, .int .i64 x.2.d, .int .i64 x.2.t, .int .i64 x.2.a, .int .i64 x.2.s] 116)) := (Below.refl _ _).alloc (Nat.le_refl _) _
    exact HKK.out _ _ ((KeepsOthers.alloc _ _).from _) (HIW.out.kp (HIW.out.below hal) (hal.mono hB.size)) ⟨⟨HIW.out.below hal, HST.out, Nat.le_trans hzz (by simp)⟩, hB.alloc hB.size _⟩ ⟨W.heap.size, rfl, heap_alloc_new W _⟩
  case body =>
    rintro l pre ⟨xk, ⟨xs, xd, xt, xa, xz⟩⟩ a' W hle hr ⟨⟨hiw, hst, hzz⟩, hB⟩ ⟨Bx, rfl, hbx⟩ hlt
    have hEN : ∃ en ok, (goodL es (pre ++ [(xk, (⟨xs, xd, xt, xa, xz⟩ : EntV))]) = (goodL es pre && (ok && entEq en ⟨xs, xd, xt, xa, xz⟩))) ∧ Calls Tryd.prog 61 #[.pointer (some ⟨q, 0, none⟩), .int .i64 xk] W fun e w' => e = .returned (.tuple #[.agg en.cells.toArray, .bool ok]) ∧ Below W.heap.size W w' := by
      by_cases hk : xk < es.length
      · refine ⟨es[xk], true, ?_, at_in W base q v es (HD.out.below hB (Nat.le_refl _)) (by omega) xk hk⟩
        rw [goodL_snoc, decide_eq_true hk, entD_eq es xk hk]
      · refine ⟨⟨⟨#[]⟩, 0, 0, 0, 0⟩, false, ?_, at_out W base q v es (HD.out.below hB (Nat.le_refl _)) (by omega) xk (.inr (by omega))⟩
        rw [goodL_snoc, decide_eq_false hk]
        rfl
    obtain ⟨⟨ek, ed, et, ea, ez⟩, ok, hgood, C0⟩ := hEN
    have C0 : Calls Tryd.prog 61 #[.pointer (some ⟨q, 0, none⟩), .int .i64 xk] W fun e w' => e = .returned (.tuple #[.agg #[.string ek, .int .i64 ed, .int .i64 et, .int .i64 ea, .int .i64 ez], .bool ok]) ∧ Below W.heap.size W w' := C0
    have C1 := CallsIn.inRound l (callsIn_wide (n := 2).2 C0)
    have c5 : W.cell? ⟨w.heap.size, 0, none⟩ = some (.pointer (some ⟨q, 0, none⟩)) := blk_cell hiw.c5 0
    have HIW := Lib.hid hiw
    have HST := Lib.hid hst
    have HBX := Lib.hid hbx
    have HB := Lib.hid hB
    have HG := Lib.hid hgood
    have HZZ := Lib.hid hzz
    have hpl : pre.length < es.length := by omega
    have hwz := hB.size
    have HR := Lib.hid hr
    clear hiw hst hbx hB hgood C0 hzz hr
    gi_upto_region 10 with (refine ⟨trivial, ?_⟩; gi_at_call 61; with_reducible refine C1.mono ?_; rintro e w2 ⟨rfl, hb2⟩)
    have hb3 : Below w2.heap.size w2 (w2.alloc (.cells #[.string ek, .int .i64 ed, .int .i64 et, .int .i64 ea, .int .i64 ez] 116)) := (Below.refl _ _).alloc (Nat.le_refl _) _
    have hxe := heap_alloc_new w2 (.cells #[.string ek, .int .i64 ed, .int .i64 et, .int .i64 ea, .int .i64 ez] 116)
    have hb13 := hb2.trans (hb3.mono hb2.size)
    generalize w2.alloc (.cells #[.string ek, .int .i64 ed, .int .i64 et, .int .i64 ea, .int .i64 ez] 116) = w3 at hb3 hxe hb13 ⊢
    generalize w2.heap.size = eb at hxe ⊢
    have hiw3 := HIW.out.below hb13
    have hbx3 := (hb13.block Bx (lt_of_heap HBX.out)).trans HBX.out
    have x0 : w3.cell? ⟨eb, 0, none⟩ = some (.string ek) := blk_cell hxe 0
    have x1 : w3.cell? ⟨eb, 1, none⟩ = some (.int .i64 ed) := blk_cell hxe 1
    have x2 : w3.cell? ⟨eb, 2, none⟩ = some (.int .i64 et) := blk_cell hxe 2
    have x3 : w3.cell? ⟨eb, 3, none⟩ = some (.int .i64 ea) := blk_cell hxe 3
    have x4 : w3.cell? ⟨eb, 4, none⟩ = some (.int .i64 ez) := blk_cell hxe 4
    have d0 : w3.cell? ⟨Bx, 0, none⟩ = some (.string xs) := blk_cell hbx3 0
    have d1 : w3.cell? ⟨Bx, 1, none⟩ = some (.int .i64 xd) := blk_cell hbx3 1
    have d2 : w3.cell? ⟨Bx, 2, none⟩ = some (.int .i64 xt) := blk_cell hbx3 2
    have d3 : w3.cell? ⟨Bx, 3, none⟩ = some (.int .i64 xa) := blk_cell hbx3 3
    have d4 : w3.cell? ⟨Bx, 4, none⟩ = some (.int .i64 xz) := blk_cell hbx3 4
    have c11 : w3.cell? ⟨w.heap.size + 1 + 1 + 1 + 1, 0, none⟩ = some (.bool (goodL es pre)) := blk_cell hiw3.c11 0
    have z11 : w3.frozen? ⟨w.heap.size + 1 + 1 + 1 + 1, 0, none⟩ = false := blk_frozen hiw3.c11 0
    have hgd := guard_ent
    have heq := fun w => eql_ent w ⟨ek, ed, et, ea, ez⟩ ⟨xs, xd, xt, xa, xz⟩
    simp only at heq
    obtain ⟨g, hg⟩ : ∃ g, goodL es pre = g := ⟨_, rfl⟩
    obtain ⟨qe, hqe⟩ : ∃ qe, entEq ⟨ek, ed, et, ea, ez⟩ ⟨xs, xd, xt, xa, xz⟩ = qe := ⟨_, rfl⟩
    rw [hqe] at heq
    rw [hg] at c11
    have HGG := Lib.hid (show goodL es (pre ++ [(xk, (⟨xs, xd, xt, xa, xz⟩ : EntV))]) = (g && (ok && qe)) from by rw [HG.out, hg, hqe])
    have HIW3 := Lib.hid hiw3
    have HB13 := Lib.hid hb13
    clear hb2 hb3 hxe hbx3 hiw3 hb13 hg hqe C1 c5 HG HBX
    gi_cut [34, 35, 36, 37, 38, 39, 40, 41, 42] from 53 (fun s34 s35 s36 s37 s38 s39 s40 s41 s42 wx => wx = w3.setCell ⟨w.heap.size + 1 + 1 + 1 + 1, 0, none⟩ (.bool (g && (ok && qe))))
    case first =>
      cases g with
      | false =>
        gi_wp2
        all_goals gi_meet
        all_goals rfl
      | true =>
        cases ok with
        | false =>
          gi_wp2
          all_goals gi_meet
          all_goals rfl
        | true =>
          gi_wp2
          all_goals gi_meet
          all_goals (cases qe <;> rfl)
    case rest =>
    subst hcut
    have hiw4 := HIW3.out.mark (g && (ok && qe))
    have hk34 : KeepsOthers w3 (w3.setCell ⟨w.heap.size + 1 + 1 + 1 + 1, 0, none⟩ (.bool (g && (ok && qe)))) := KeepsOthers.setCell w3 _ _
    have hb34 : Below w.heap.size w3 (w3.setCell ⟨w.heap.size + 1 + 1 + 1 + 1, 0, none⟩ (.bool (g && (ok && qe)))) := (Below.refl _ _).setCell (p := ⟨w.heap.size + 1 + 1 + 1 + 1, 0, none⟩) (by simp only; omega) _
    rw [← HGG.out] at hiw4 hk34 hb34 ⊢
    generalize w3.setCell ⟨w.heap.size + 1 + 1 + 1 + 1, 0, none⟩ (.bool (goodL es (pre ++ [(xk, (⟨xs, xd, xt, xa, xz⟩ : EntV))]))) = W4 at hiw4 hk34 hb34 ⊢
    obtain ⟨A, C, h4, h5⟩ := hiw4.c10
    have y10 : W4.cell? ⟨w.heap.size + 1 + 1 + 1, 0, none⟩ = some (.slice A pre.length C) := blk_cell h4 0
    have hl5 : (natsV (numsL pre)).length < 1000000000000 := by rw [natsV_length, numsL_len]; omega
    have hz5 : w.heap.size + 1 + 1 ≤ W4.heap.size := by have := lt_of_heap hiw4.c11; omega
    have HIW4 := Lib.hid hiw4
    have H4 := Lib.hid h4
    have HO5 := Lib.hid h5
    have HL5 := Lib.hid hl5
    have HKO := Lib.hid ((keepsT_below HB13.out).trans hk34)
    have HB4 := Lib.hid ((HB13.out.mono hwz).trans hb34)
    clear hiw4 hk34 hb34 h4 h5 hl5 x0 x1 x2 x3 x4 d0 d1 d2 d3 d4 c11 z11 heq hgd HIW3 HB13 HGG
    gi_upto_region 11 with fail
    gi_wp2_with (gi_at_builtin; with_reducible refine ap1In elIntG rfl HO5.out HL5.out hz5 rfl _ _ rfl rfl rfl ?_)
    intro v9 w9 hO9 hg9
    obtain ⟨A9, C9, rfl⟩ := own_slice hO9
    have hl9 : (natsV (numsL pre) ++ [Value.int .i64 (xk : Nat)]).length = pre.length + 1 := by rw [List.length_append, natsV_length, numsL_len]; rfl
    rw [hl9] at hO9 ⊢
    obtain ⟨hiw10, h49, h79⟩ := HIW4.out.push H4.out HO5.out (xk, (⟨xs, xd, xt, xa, xz⟩ : EntV)) hO9 hg9
    have y9 : w9.cell? ⟨w.heap.size + 1 + 1 + 1, 0, none⟩ = some (.slice A pre.length C) := blk_cell h49 0
    have f9 : w9.frozen? ⟨w.heap.size + 1 + 1 + 1, 0, none⟩ = false := blk_frozen h49 0
    have y7 : w9.cell? ⟨w.heap.size + 1, 0, none⟩ = some (.int .i64 stop) := blk_cell h79 0
    have hk10 : KeepsOthers W (w9.setCell ⟨w.heap.size + 1 + 1 + 1, 0, none⟩ (.slice A9 (pre.length + 1) C9)) := (HKO.out.trans (keepsT_grown hg9 (fun r hr => own_typedT HO5.out hr))).trans (KeepsOthers.setCell w9 _ _)
    have hb10 : Below w.heap.size W (w9.setCell ⟨w.heap.size + 1 + 1 + 1, 0, none⟩ (.slice A9 (pre.length + 1) C9)) := (HB4.out.grown hg9 (by omega) (fun r hr => by have := (HO5.out.lt r hr).1; omega)).setCell (p := ⟨w.heap.size + 1 + 1 + 1, 0, none⟩) (by simp only; omega) _
    obtain ⟨m, hm⟩ : ∃ m, pre.length + 1 = m := ⟨_, rfl⟩
    have hpm : (pre ++ [(xk, (⟨xs, xd, xt, xa, xz⟩ : EntV))]).length = m := by rw [← hm]; simp
    rw [hm] at hiw10 hk10 hb10 ⊢
    have HIW10 := Lib.hid hiw10
    have HK10 := Lib.hid hk10
    have HB10 := Lib.hid hb10
    have HPM := Lib.hid hpm
    have HM := Lib.hid hm
    clear hO9 hl9 hg9 hiw10 hk10 hb10 hpm hm h49 h79 y10 hz5 HO5 H4 HIW4 HL5 HKO HB4
    by_cases hs : (m : Int) = stop
    · have te : ((m : Int) == stop) = true := by simp [hs]
      have HS9 := Lib.hid hs
      clear hs
      gi_wp2
      refine ⟨HK10.out.from _, ⟨rfl, ?_, ?_, HIW10.out⟩, HB.out.trans HB10.out⟩
      · rw [HPM.out]; exact HS9.out
      · rw [HPM.out]; have := HM.out; omega
    · have te : ((m : Int) == stop) = false := by simp [hs]
      have HS9 := Lib.hid hs
      clear hs
      gi_wp2
      refine ⟨HK10.out.from _, HIW.out.kp HIW10.out HB10.out, ⟨HIW10.out, fun k h1 h2 e => ?_, Nat.le_trans HZZ.out HK10.out.size⟩, HB.out.trans HB10.out⟩
      rw [HPM.out] at h1
      by_cases hkm : k = m
      · exact HS9.out (by rw [← hkm]; exact e)
      · exact HST.out k (by have := HM.out; omega) h2 e
  case done =>
    rintro D ys W hDD rfl ⟨⟨hiw, hst, hzz⟩, hB⟩ hK
    obtain ⟨A, C, h4, h5⟩ := hiw.c10
    have c10 : W.cell? ⟨w.heap.size + 1 + 1 + 1, 0, none⟩ = some (.slice A (termsP M h.data.toList es es.length).length C) := blk_cell h4 0
    have c11 : W.cell? ⟨w.heap.size + 1 + 1 + 1 + 1, 0, none⟩ = some (.bool true) := by rw [← goodL_terms M h.data.toList es (Nat.le_refl _)]; exact blk_cell hiw.c11 0
    have hres : stopL (numsL (termsP M h.data.toList es es.length)) stop = numsL (termsP M h.data.toList es es.length) := by
      unfold stopL
      rw [if_neg]
      rintro ⟨h1, h2⟩
      rw [numsL_len] at h2
      exact hst stop.toNat (by omega) (by omega) (by omega)
    have H5 := Lib.hid h5
    have HRES := Lib.hid hres
    have HB := Lib.hid hB
    have HKD := Lib.hid hK
    clear hiw hst h4 h5 hres hB hK
    gi_wp2
    refine HKC.out _ _ ?_
    gi_upto_region 13 with fail
    gi_quiet_th (fail)
    gi_wp2
    have hkd : (W.drewN nq).heap[D]? = some (.deferred (some [])) := HKD.out
    refine ⟨by simp, .inl ⟨_, _, rfl, run_takeDeferred hkd, ?_⟩⟩
    refine ⟨.tuple #[.slice A (termsP M h.data.toList es es.length).length C, .bool true], ?_, A, C, ?_, ?_, (below_drewN HB.out nq).trans (belowK_b (w := w) (Nat.le_refl _) _ D _ _ (by omega) hkd rfl rfl)⟩
    · simp [results, Tryd.f40, go_sem]
    · rw [HRES.out, numsL_len]
    · rw [HRES.out, numsL_len]
      exact own_base (own_rowT (B := 0) (H5.out.drewN nq) (grownBy_putObj' _ D (.deferred none)) (fun r e => by cases e; exact ⟨Nat.zero_le _, _, hkd, rfl⟩)) (by omega)
  case stop =>
    rintro D cd pre W hDD ⟨k, hk, rfl⟩ ⟨⟨rfl, hst, h1, hiw⟩, hB⟩ hK
    obtain ⟨A, C, h4, h5⟩ := hiw.c10
    have c10 : W.cell? ⟨w.heap.size + 1 + 1 + 1, 0, none⟩ = some (.slice A (termsP M h.data.toList es k).length C) := blk_cell h4 0
    have c11 : W.cell? ⟨w.heap.size + 1 + 1 + 1 + 1, 0, none⟩ = some (.bool true) := by rw [← goodL_terms M h.data.toList es hk]; exact blk_cell hiw.c11 0
    have hres : stopL (numsL (termsP M h.data.toList es es.length)) stop = numsL (termsP M h.data.toList es k) := by
      obtain ⟨r, hr⟩ := termsP_prefix M h.data.toList es hk
      unfold stopL
      rw [← hr, if_pos]
      · unfold numsL
        rw [List.map_append, show stop.toNat = ((termsP M h.data.toList es k).map (·.1)).length by rw [List.length_map]; omega, List.take_left]
      · rw [numsL_len, List.length_append]; omega
    have H5 := Lib.hid h5
    have HRES := Lib.hid hres
    have HB := Lib.hid hB
    have HKD := Lib.hid hK
    clear hiw hst h4 h5 hres hB hK h1
    gi_wp2
    refine HKC.out _ _ ?_
    gi_upto_region 13 with fail
    gi_quiet_th (fail)
    gi_wp2
    have hkd : (W.drewN nq).heap[D]? = some (.deferred (some [])) := HKD.out
    refine ⟨by simp, .inl ⟨_, _, rfl, run_takeDeferred hkd, ?_⟩⟩
    refine ⟨.tuple #[.slice A (termsP M h.data.toList es k).length C, .bool true], ?_, A, C, ?_, ?_, (below_drewN HB.out nq).trans (belowK_b (w := w) (Nat.le_refl _) _ D _ _ (by omega) hkd rfl rfl)⟩
    · simp [results, Tryd.f40, go_sem]
    · rw [HRES.out, numsL_len]
    · rw [HRES.out, numsL_len]
      exact own_base (own_rowT (B := 0) (H5.out.drewN nq) (grownBy_putObj' _ D (.deferred none)) (fun r e => by cases e; exact ⟨Nat.zero_le _, _, hkd, rfl⟩)) (by omega)
end Go.Proofs.YtejmjjgbbojfbaaDoor
