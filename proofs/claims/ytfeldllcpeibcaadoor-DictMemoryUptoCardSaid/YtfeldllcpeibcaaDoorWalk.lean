/- dict: Walk, as a range over a function asks it. -/
import Derived.RangeFuncNested
import Derived.RangeFuncBound
import Derived.RangeFuncCalls
import Derived.RangeFuncLeaves
import Derived.RangeFuncBox
import Derived.Shelf.Abstract
import Derived.Shelf.RegionOpen
import Derived.OwnWalkIn
import Derived.TacticsInMore
import Derived.LoopNIn
import Derived.LoopIn
import Derived.Test.YtfeldllcpeibcaaDoorDictT
namespace Go.Proofs.YtfeldllcpeibcaaDoor
set_option linter.unusedVariables false
open Go.ChangeShapes Go.WideShapes Go.ChangeAt Go.RowKit Go.Shelf
attribute [local go_sem] Oper.semAt_some

def entD (es : List EntV) (j : Nat) : EntV := (es[j]?).getD ⟨⟨#[]⟩, 0, 0, 0, 0⟩
theorem entD_eq (es : List EntV) (j : Nat) (h : j < es.length) : entD es j = es[j] := by unfold entD; rw [List.getElem?_eq_getElem h]; rfl
/-- What Walk(a) tells in its first k rounds. -/
def walkL (es : List EntV) (a k : Nat) : List (Nat × EntV) := (List.range k).map fun j => (a + j, entD es (a + j))
theorem walkL_succ (es : List EntV) (a k : Nat) : walkL es a (k + 1) = walkL es a k ++ [(a + k, entD es (a + k))] := by simp [walkL, List.range_succ]
theorem walkL_length (es : List EntV) (a k : Nat) : (walkL es a k).length = k := by simp [walkL]
def encE (x : Nat × EntV) : Array Value := #[.int .i64 (x.1 : Nat), .agg #[.string x.2.k, .int .i64 x.2.d, .int .i64 x.2.t, .int .i64 x.2.a, .int .i64 x.2.s]]
/-- What a round of a walk over a dictionary keeps. -/
structure KpW (n0 b0 b1 : Nat) (A B : World) : Prop where
  below : Below n0 A B
  k0 : B.heap[b0]? = A.heap[b0]?
  k1 : B.heap[b1]? = A.heap[b1]?
theorem KpW.refl (n0 b0 b1 : Nat) (A : World) : KpW n0 b0 b1 A A := ⟨Below.refl _ _, rfl, rfl⟩
theorem KpW.trans {n0 b0 b1 : Nat} {A B C : World} (h : KpW n0 b0 b1 A B) (k : KpW n0 b0 b1 B C) : KpW n0 b0 b1 A C := ⟨h.below.trans k.below, k.k0.trans h.k0, k.k1.trans h.k1⟩
theorem KpW.putObj {n0 b0 b1 : Nat} {w : World} (hn : n0 ≤ w.heap.size) (h0 : b0 < w.heap.size) (h1 : b1 < w.heap.size) (W : World) (l : Nat) (o o' : Obj) (hl : w.heap.size ≤ l) (h : W.heap[l]? = some o) (hc : o.isCells = false) (hw : o.isWalk = false) : KpW n0 b0 b1 W (W.putObj l o') :=
  ⟨belowK_b hn W l o o' hl h hc hw, World.putObj_heap_other (by omega), World.putObj_heap_other (by omega)⟩
theorem KpW.of_below {n0 b0 b1 : Nat} {A B : World} (h : Below A.heap.size A B) (hn : n0 ≤ A.heap.size) (h0 : b0 < A.heap.size) (h1 : b1 < A.heap.size) : KpW n0 b0 b1 A B := ⟨h.mono hn, h.block _ h0, h.block _ h1⟩

set_option maxRecDepth 100000 in
set_option maxHeartbeats 2000000 in
theorem walkc_in (F : Fence) (n : Nat) (hF : F.fn 53) (hro : F.round = none) (hn : 1 ≤ n) (w0 : World) (base q : Nat) (v : Value) (es : List EntV) (hD : DictAt w0 base q v es) (hel : es.length ≤ 1000000000) (b0 b1 a l : Nat) (i : Int) (ha : a = i.toNat) (hi : i ≤ 9223372036854775807) (J Jx : List (Nat × EntV) → World → Prop)
    (hY : ∀ pre x W, J pre W → pre.length < es.length - a → YieldAt F (n - 1) Tryd.prog l (encE x) W fun e W' => (e = .returned (.bool true) ∧ J (pre ++ [x]) W' ∧ KpW w0.heap.size b0 b1 W W') ∨ (e = .returned (.bool false) ∧ Jx (pre ++ [x]) W'))
    (W : World) (hb : Below w0.heap.size w0 W) (h0 : W.heap[b0]? = some (.cells #[.pointer (some ⟨q, 0, none⟩)] 24 (0, 0))) (h1 : W.heap[b1]? = some (.cells #[.int .i64 i] 3 (0, 0))) (hJ : J [] W) :
    CallsIn F n Tryd.prog 53 #[.func (.yield l) #[] #[], .pointer (some ⟨b1, 0, none⟩), .pointer (some ⟨b0, 0, none⟩)] W fun e W' => (∃ v, e = .returned v) ∧
      ((∃ ys, ys = walkL es a (es.length - a) ∧ J ys W') ∨ (∃ pre, (∃ k, k ≤ es.length - a ∧ pre = walkL es a k) ∧ Jx pre W')) := by
  have c1 : W.cell? ⟨b1, 0, none⟩ = some (.int .i64 i) := blk_cell h1 0
  have hmax : max i 0 = (a : Int) := by omega
  have HD := Lib.hid hD
  have HB := Lib.hid hb
  have H0 := Lib.hid h0
  have HY := Lib.hid hY
  have HJ := Lib.hid hJ
  clear hD hb h0 h1 hY hJ ha
  refine callsIn_of_wp Tryd.func53 rfl hF ?_ hro
  simp only [Tryd.ntmps53, List.size_toArray, List.length_cons, List.length_nil, Nat.reduceAdd, Nat.reduceSub, Array.replicate_succ, Array.replicate_zero, List.push_toArray, List.append_toArray, List.nil_append, List.cons_append]
  gi_wp2
  gi_loopw [4] (fun s4 wr => ∃ j : Nat, (j ≤ es.length - a ∧ s4 = .int .i64 (a + j : Nat)) ∧ J (walkL es a j) wr ∧ KpW w0.heap.size b0 b1 W wr)
    (fun s4 _ => a + es.length - (intOf s4).toNat)
  case atStart => exact ⟨0, ⟨Nat.zero_le _, rfl⟩, HJ.out, KpW.refl _ _ _ _⟩
  case round =>
    obtain ⟨j, ⟨hj, rfl⟩, hJs, hkp⟩ := hrel
    have g0 := hkp.k0.trans H0.out
    have c0 : wr.cell? ⟨b0, 0, none⟩ = some (.pointer (some ⟨q, 0, none⟩)) := blk_cell g0 0
    obtain ⟨av, cv, rfl, hcv, hat⟩ := (HD.out.below (HB.out.trans hkp.below) (Nat.le_refl _)).sl
    by_cases hlt : a + j < es.length
    · obtain ⟨g, rfl, d0, d1, d2, d3, d4⟩ := hat (a + j) hlt
      rw [← entD_eq es (a + j) hlt] at d0 d1 d2 d3 d4
      obtain ⟨fn, tmps, assign, body, hy, hR⟩ := HY.out _ (a + j, entD es (a + j)) wr hJs (by rw [walkL_length]; omega)
      have HSU := Lib.hid (walkL_succ es a j)
      generalize entD es (a + j) = en at d0 d1 d2 d3 d4 hy hR HSU
      obtain ⟨ek, ed, et, ea, es'⟩ := en
      unfold encE at hy
      dsimp only at hy d0 d1 d2 d3 d4
      have i1 : ((a + j : Nat) : Int) < (es.length : Int) := by omega
      have HK := Lib.hid hkp
      obtain ⟨x, hx⟩ : ∃ x, a + j = x := ⟨_, rfl⟩
      rw [hx] at d0 d1 d2 d3 d4 hy hR HSU i1 hlt ⊢
      have hx9 : x ≤ 1000000000 := by omega
      have HX := Lib.hid hx
      clear hat hkp hJs g0 hx
      gi_wp2
      refine hR.mono ?_
      rintro e W3 (⟨rfl, hJ3, hk3⟩ | ⟨rfl, hJx3⟩)
      · have hJ4 := HSU.out.symm ▸ hJ3
        have HJ4 := Lib.hid hJ4
        have HK4 := Lib.hid (HK.out.trans hk3)
        clear hJ3 hJ4 hk3 hR hy
        gi_wp2
        go_roundw
        case rel => exact ⟨j + 1, ⟨by have := HX.out; omega, by rw [← HX.out]; go_num⟩, HJ4.out, HK4.out⟩
        case measure => have := HX.out; simp [intOf]; omega
      · have hJ4 := HSU.out.symm ▸ hJx3
        have HJ4 := Lib.hid hJ4
        clear hJx3 hJ4 hR hy
        gi_wp2
        refine bodyPost_ret (results_none rfl _ _ _) rfl ?_
        exact ⟨⟨_, rfl⟩, .inr ⟨_, ⟨j + 1, by have := HX.out; omega, rfl⟩, HJ4.out⟩⟩
    · have hjl : j = es.length - a := by omega
      have HJ4 := Lib.hid (hjl ▸ hJs)
      have tl : decide (a + j < es.length) = false := decide_eq_false hlt
      have i1 : ¬ ((a + j : Nat) : Int) < (es.length : Int) := by omega
      obtain ⟨x, hx⟩ : ∃ x, a + j = x := ⟨_, rfl⟩
      rw [hx] at tl i1 ⊢
      clear hat hkp hJs g0 hjl hx hlt
      gi_wp2
      go_end0
      exact ⟨⟨_, rfl⟩, .inl HJ4.out⟩

/-- Walk(i)'s closure, as the law of a range over a function asks it. -/
theorem walk_stops (F : Fence) (n : Nat) (hF : F.fn 53) (hro : F.round = none) (hn : 1 ≤ n) (w0 : World) (base q : Nat) (v : Value) (es : List EntV) (hD : DictAt w0 base q v es) (hel : es.length ≤ 1000000000) (b0 b1 : Nat) (i : Int) (hi : i ≤ 9223372036854775807)
    (w : World) (hb : Below w0.heap.size w0 w) (h0 : w.heap[b0]? = some (.cells #[.pointer (some ⟨q, 0, none⟩)] 24 (0, 0))) (h1 : w.heap[b1]? = some (.cells #[.int .i64 i] 3 (0, 0))) :
    SeqStopsK F n Tryd.prog 53 #[.pointer (some ⟨b1, 0, none⟩), .pointer (some ⟨b0, 0, none⟩)] encE (KpW w0.heap.size b0 b1) (fun ys => ys = walkL es i.toNat (es.length - i.toNat)) (fun pre => ∃ k, k ≤ es.length - i.toNat ∧ pre = walkL es i.toNat k) (es.length - i.toNat) w :=
  fun l J Jx W hW _ _ hY hJ => by
    have hbW : Below w0.heap.size w0 W := hb.trans (hW.mono hb.size)
    exact walkc_in F n hF hro hn w0 base q v es hD hel b0 b1 i.toNat l i rfl hi J Jx hY W hbW ((hW.block _ (lt_of_heap h0)).trans h0) ((hW.block _ (lt_of_heap h1)).trans h1) hJ
set_option maxRecDepth 100000 in
/-- Walk lays two boxes, and hands back its closure. -/
theorem walk_any (w : World) (q : Nat) (i : Int) :
    Calls Tryd.prog 26 #[.pointer (some ⟨q, 0, none⟩), .int .i64 i] w fun e w' => e = .returned (.func (.func 53) #[] #[.pointer (some ⟨w.heap.size + 1, 0, none⟩), .pointer (some ⟨w.heap.size, 0, none⟩)]) ∧ w' = (w.alloc (.cells #[.pointer (some ⟨q, 0, none⟩)] 24)).alloc (.cells #[.int .i64 i] 3) := by
  have hmf : ∀ (fn : Fn) (first cap : Array Value) (w : World), (Instr.makeFunc fn first cap).run Tryd.prog w = .ok (.func fn first cap) w := fun _ _ _ _ => rfl
  go_enter Tryd.func26, Tryd.ntmps26
  go_wp2
  go_ret
  exact ⟨rfl, rfl⟩
end Go.Proofs.YtfeldllcpeibcaaDoor
