/- Merged: Els, Wild, Wild2. -/
import Derived.Test.YtejmjjgbbojfbaaDoorZG3
import Derived.BigQuiet
import Derived.Test.YtejmjjgbbojfbaaDoorZG9
/- The elements of a pattern: plain, their memory, and the walk of auto.elements. -/
namespace Go.Proofs.YtejmjjgbbojfbaaDoor
set_option linter.unusedVariables false
open Go.ChangeShapes Go.WideShapes Go.ChangeAt Go.RowKit

/-- An element: 0 a letter, 1 a gap, 2 a star. -/
abbrev PEl := Nat × UInt8
def elems : List UInt8 → Option (List PEl)
  | [] => some []
  | [c] => if c = 42 then some [(2, 0)] else if c = 63 then some [(1, 0)] else if c = 92 then none else some [(0, c)]
  | c :: d :: r => if c = 42 then (elems (d :: r)).map ((2, 0) :: ·) else if c = 63 then (elems (d :: r)).map ((1, 0) :: ·) else if c = 92 then (elems r).map ((0, d) :: ·) else (elems (d :: r)).map ((0, c) :: ·)
theorem elems_star (r : List UInt8) : elems (42 :: r) = (elems r).map ((2, 0) :: ·) := by cases r <;> rfl
theorem elems_gap (r : List UInt8) : elems (63 :: r) = (elems r).map ((1, 0) :: ·) := by cases r <;> rfl
theorem elems_esc (d : UInt8) (r : List UInt8) : elems (92 :: d :: r) = (elems r).map ((0, d) :: ·) := rfl
theorem elems_esc0 : elems [92] = none := rfl
theorem elems_let {c : UInt8} (r : List UInt8) (h1 : c ≠ 42) (h2 : c ≠ 63) (h3 : c ≠ 92) : elems (c :: r) = (elems r).map ((0, c) :: ·) := by
  cases r with
  | nil => simp [elems, h1, h2, h3]
  | cons d r => simp [elems, h1, h2, h3]
def eCells (e : PEl) : List Value := [.int .i64 (e.1 : Nat), .int .u8 (e.2.toNat : Nat)]
/-- v is a list of elements of the call's own. -/
def Row2 (w : World) (base : Nat) (v : Value) (es : List PEl) : Prop := w.ownsRow base 131 2 v es.length (es.flatMap eCells)
/-- A list of elements that reads. -/
def RdE (w : World) (v : Value) (es : List PEl) : Prop :=
  ∃ a c, v = .slice a es.length c ∧ (0 < es.length → ∃ g, a = some ⟨g, 0, none⟩ ∧ ∀ (i : Nat) (h : i < es.length), w.cell? ⟨g, i * 2, none⟩ = some (.int .i64 (es[i].1 : Nat)) ∧ w.cell? ⟨g, i * 2 + 1, none⟩ = some (.int .u8 (es[i].2.toNat : Nat)))
theorem RdE.below {w w' : World} {v : Value} {es : List PEl} (h : RdE w v es) (hb : Below w.heap.size w w') : RdE w' v es := by
  obtain ⟨a, c, hv, h⟩ := h
  refine ⟨a, c, hv, fun h0 => ?_⟩
  obtain ⟨g, e, hg⟩ := h h0
  refine ⟨g, e, fun i hi => ?_⟩
  obtain ⟨h1, h2⟩ := hg i hi
  exact ⟨by rw [hb.cell (World.block_lt_of_cell? w _ h1)]; exact h1, by rw [hb.cell (World.block_lt_of_cell? w _ h2)]; exact h2⟩
theorem flat2_get : ∀ (es : List PEl) (i j : Nat) (h : i < es.length), j < 2 → (es.flatMap eCells)[i * 2 + j]? = (eCells es[i])[j]?
  | e :: es, 0, j, _, hj => by
    rw [List.flatMap_cons, List.getElem?_append_left (by simp [eCells]; omega)]
    simp
  | e :: es, i + 1, j, h, hj => by
    rw [List.flatMap_cons, List.getElem?_append_right (by simp [eCells]; omega), show (eCells e).length = 2 from rfl, show (i + 1) * 2 + j - 2 = i * 2 + j by omega]
    exact flat2_get es i j (by simpa using h) hj
theorem Row2.rd {w : World} {base : Nat} {v : Value} {es : List PEl} (h : Row2 w base v es) : RdE w v es := by
  rcases h.2 with ⟨hv, h0⟩ | ⟨g, cap, cur, hv, hb, hg, hn, _⟩
  · exact ⟨none, 0, by rw [hv, h0], fun h1 => by omega⟩
  · have hc := World.ownsRow.cells h (g := g) (by rw [hv]; rfl)
    refine ⟨some ⟨g, 0, none⟩, cap, hv, fun h1 => ⟨g, rfl, fun i hi => ?_⟩⟩
    have h2 := hc (i * 2 + 0) (.int .i64 (es[i].1 : Nat)) (by rw [flat2_get es i 0 hi (by omega)]; rfl)
    have h3 := hc (i * 2 + 1) (.int .u8 (es[i].2.toNat : Nat)) (by rw [flat2_get es i 1 hi (by omega)]; rfl)
    rw [addr_add, Nat.zero_add] at h2 h3
    exact ⟨h2, h3⟩
theorem Row2.sl {w : World} {base : Nat} {v : Value} {es : List PEl} (h : Row2 w base v es) : ∃ a c, v = .slice a es.length c := by
  obtain ⟨a, c, hv, _⟩ := h.rd; exact ⟨a, c, hv⟩
theorem row2_nil (w : World) (base : Nat) : Row2 w base (.slice none 0 0) [] := World.ownsRow_nil w base 131 2
theorem el_info : (Tryd.prog.info? 131).map (fun i => (i.size, i.bytes, (i.zero.map fun z => z.cells.size))) = some (2, 16, some 2) := by kernel_rfl
set_option maxRecDepth 100000 in
theorem ap2 {w0 : World} {k : Int} {b : Int} {e : PEl} (hk : k = (e.1 : Nat)) (hbb : b = (e.2.toNat : Nat)) {base : Nat} {v : Value} {es : List PEl} (hown : Row2 w0 base v es) (hlen : es.length ≤ 1000000000000) (hbase : base ≤ w0.heap.size)
    {ops : Array Oper} {rest : List Oper} {o : Oper} {a : Act} {Q : Exit → Act → World → Prop} (hgd : o.guard = none) (x y : Operand)
    (ho : o.op = .call { callee := .builtin .append, args := #[x, y], argTypes := #[89, 89] }) (hs : a.eval x = v) (hy : a.eval y = .slice (some ⟨w0.heap.size, 0, none⟩) 1 1)
    (h : ∀ v' w', Row2 w' base v' (es ++ [e]) → w0.grownBy w' v.ownBlock → wpList Tryd.prog ops Q rest (a.put o.dst v') w') :
    wpList Tryd.prog ops Q (o :: rest) a (w0.alloc (.cells #[.int .i64 k, .int .u8 b] 131)) := by
  subst hk hbb
  obtain ⟨i0, hi, hrest⟩ := Option.map_eq_some_iff.1 el_info
  simp only [Prod.mk.injEq] at hrest
  obtain ⟨h8, hby, hz⟩ := hrest
  obtain ⟨z, hz, hzs⟩ := Option.map_eq_some_iff.1 hz
  refine wpList_append_own (P := Tryd.prog) _ hgd x y 89 ho base 131 i0 z 2 16 Tryd.underlying89 hi hz h8 hby hzs (by decide) v es.length _ hs (World.ownsRow.alloc hown _) ⟨w0.heap.size, 0, none⟩ 1 1
    (eCells e) hy rfl (fun j x hx => ?_) ?_ (by unfold maxLen; omega) (by omega) (by simp; omega) ?_
  · rw [addr_add, Nat.zero_add, blk_cell (heap_alloc_new w0 _) j]
    rw [← hx]; simp [eCells]
  · intro x hx
    simp only [eCells, List.mem_cons, List.not_mem_nil, or_false] at hx
    rcases hx with rfl | rfl <;> rfl
  · intro v' w' h1 h2 _
    refine h v' w' ?_ ?_
    · unfold Row2; rw [List.flatMap_append, List.length_append]; simpa using h1
    · exact ⟨h2.os, h2.tape, h2.output, Nat.le_trans (by simp) h2.size, fun k hk hne => (h2.block k (by simp; omega) hne).trans (Below.heap_alloc _ _ _ hk)⟩
theorem ap2c {w0 : World} {c : UInt8} {base : Nat} {v : Value} {es : List PEl} (hown : Row2 w0 base v es) (hlen : es.length ≤ 1000000000000) (hbase : base ≤ w0.heap.size)
    {ops : Array Oper} {rest : List Oper} {o : Oper} {a : Act} {Q : Exit → Act → World → Prop} (hgd : o.guard = none) (x y : Operand)
    (ho : o.op = .call { callee := .builtin .append, args := #[x, y], argTypes := #[89, 89] }) (hs : a.eval x = v) (hy : a.eval y = .slice (some ⟨w0.heap.size, 0, none⟩) 1 1)
    (h : ∀ v' w', Row2 w' base v' (es ++ [(0, c)]) → w0.grownBy w' v.ownBlock → wpList Tryd.prog ops Q rest (a.put o.dst v') w') :
    wpList Tryd.prog ops Q (o :: rest) a (w0.alloc (.cells #[.int .i64 0, .int .u8 (c.toNat : Nat)] 131)) :=
  ap2 (e := (0, c)) rfl rfl hown hlen hbase hgd x y ho hs hy h
theorem Row2.grown {w w' : World} {base : Nat} {v : Value} {es : List PEl} (h : Row2 w base v es) (hg : w.grownBy w' v.ownBlock) {w0 : World} (hb : Below base w0 w) (hB : w0.heap.size = base) : Below base w0 w' :=
  ⟨hg.os.trans hb.os, hg.tape.trans hb.tape, hg.output.trans hb.output, Nat.le_trans hb.size hg.size, fun k hk => (hg.block k (Nat.lt_of_lt_of_le (by omega) hb.size) (fun e => by have := (World.ownsRow.lt h k e.symm).1; omega)).trans (hb.block k hk)⟩

theorem els_next {s r r' : List UInt8} {es : List PEl} {e : PEl} (h : elems s = (elems r).map (es ++ ·)) (hr : elems r = (elems r').map (e :: ·)) : elems s = (elems r').map ((es ++ [e]) ++ ·) := by
  rw [h, hr]; cases elems r' <;> simp
theorem u8_of {c : UInt8} {n : Nat} (hn : n < 256) (h : (c.toNat : Int) = n) : c = UInt8.ofNat n := by
  apply UInt8.toNat_inj.1
  have : (UInt8.ofNat n).toNat = n := by simp; omega
  omega
theorem u8_ne {c : UInt8} {n : Nat} (hn : n < 256) (h : ¬ (c.toNat : Int) = n) : c ≠ UInt8.ofNat n := fun e => h (by rw [e]; simp; omega)
/-- What elements answers. -/
def ElsPost (w : World) (s : ByteArray) (e : Ending) (w' : World) : Prop :=
  (∀ es, elems s.data.toList = some es → ∃ v, e = .returned (.tuple #[v, .bool true]) ∧ Row2 w' w.heap.size v es ∧ Below w.heap.size w w') ∧
  (elems s.data.toList = none → e = .returned (.tuple #[.slice none 0 0, .bool false]) ∧ Below w.heap.size w w')
set_option maxRecDepth 100000 in
set_option maxHeartbeats 1000000 in
theorem elements_any (w : World) (s : ByteArray) (hs : s.size ≤ 1000000000000) :
    Calls Tryd.prog 50 #[.string s] w (ElsPost w s) := by
  have hsl : s.size = s.data.toList.length := (Array.length_toList (xs := s.data)).symm
  have HSL := Lib.hid hsl
  clear hsl
  go_enter Tryd.func50, Tryd.ntmps50
  go_wp2
  go_loopw [4, 5] (fun s4 s5 wr => ∃ (i : Nat) (es : List PEl) (A : Option Addr) (C : Nat), s5 = .int .i64 i ∧ i ≤ s.size ∧ s4 = .slice A es.length C ∧ Row2 wr w.heap.size (.slice A es.length C) es ∧ es.length ≤ i ∧ elems s.data.toList = (elems (s.data.toList.drop i)).map (es ++ ·) ∧ Below w.heap.size w wr) (fun _ s5 _ => s.size - (intOf s5).toNat)
  case atStart => exact ⟨0, [], none, 0, rfl, Nat.zero_le _, rfl, row2_nil _ _, Nat.le_refl _, by simp, Below.refl _ _⟩
  case round =>
    obtain ⟨i, es, A, C, rfl, hi, rfl, hrow, hle, heq, hb⟩ := hrel
    have hsz := hb.size
    by_cases hlt : i < s.size
    · have hil : i < s.data.toList.length := by rw [← HSL.out]; exact hlt
      have hdrop : s.data.toList.drop i = s[i]'hlt :: s.data.toList.drop (i + 1) := List.drop_eq_getElem_cons hil
      have HEQ := Lib.hid heq
      have HDR := Lib.hid hdrop
      have HB := Lib.hid hb
      clear heq hdrop hb
      by_cases h1 : ((s[i]'hlt).toNat : Int) = 42
      · have HK := Lib.hid (show (2 : Int) = (((2, 0) : PEl).1 : Nat) from rfl)
        have HBB := Lib.hid (show (0 : Int) = (((2, 0) : PEl).2.toNat : Nat) from rfl)
        have hlen9 : es.length ≤ 1000000000000 := by omega
        have hnx := els_next HEQ.out (show elems (s.data.toList.drop i) = (elems (s.data.toList.drop (i + 1))).map (((2, 0) : PEl) :: ·) by rw [HDR.out, u8_of (n := 42) (by decide) h1]; exact elems_star _)
        have HNX := Lib.hid hnx
        clear hnx
        go_upto_region 8 with fail
        go_wp2_with (at_builtin; with_reducible refine ap2 HK.out HBB.out hrow hlen9 hsz rfl _ _ rfl rfl rfl ?_)
        intro v4 w4 hr4 hg4
        have hb4 := hrow.grown hg4 HB.out rfl
        obtain ⟨A4, C4, rfl⟩ := hr4.sl
        have HR4 := Lib.hid hr4
        have HB4 := Lib.hid hb4
        clear hr4 hg4 hb4 hrow
        go_wp2
        go_roundw
        case rel => exact ⟨i + 1, es ++ [((2, 0) : PEl)], A4, C4, by go_num, by omega, rfl, HR4.out, by simp; omega, HNX.out, HB4.out⟩
        case measure => simp [intOf]; omega
      · by_cases h2 : ((s[i]'hlt).toNat : Int) = 63
        · have HK := Lib.hid (show (1 : Int) = (((1, 0) : PEl).1 : Nat) from rfl)
          have HBB := Lib.hid (show (0 : Int) = (((1, 0) : PEl).2.toNat : Nat) from rfl)
          have hlen9 : es.length ≤ 1000000000000 := by omega
          have hnx := els_next HEQ.out (show elems (s.data.toList.drop i) = (elems (s.data.toList.drop (i + 1))).map (((1, 0) : PEl) :: ·) by rw [HDR.out, u8_of (n := 63) (by decide) h2]; exact elems_gap _)
          have HNX := Lib.hid hnx
          clear hnx
          go_upto_region 10 with fail
          go_wp2_with (at_builtin; with_reducible refine ap2 HK.out HBB.out hrow hlen9 hsz rfl _ _ rfl rfl rfl ?_)
          intro v4 w4 hr4 hg4
          have hb4 := hrow.grown hg4 HB.out rfl
          obtain ⟨A4, C4, rfl⟩ := hr4.sl
          have HR4 := Lib.hid hr4
          have HB4 := Lib.hid hb4
          clear hr4 hg4 hb4 hrow
          go_wp2
          go_roundw
          case rel => exact ⟨i + 1, es ++ [((1, 0) : PEl)], A4, C4, by go_num, by omega, rfl, HR4.out, by simp; omega, HNX.out, HB4.out⟩
          case measure => simp [intOf]; omega
        · by_cases h3 : ((s[i]'hlt).toNat : Int) = 92
          · by_cases hlt2 : i + 1 < s.size
            · have hil2 : i + 1 < s.data.toList.length := by rw [← HSL.out]; exact hlt2
              have hd2 : s.data.toList.drop (i + 1) = s[i + 1]'hlt2 :: s.data.toList.drop (i + 2) := List.drop_eq_getElem_cons hil2
              have HD2 := Lib.hid hd2
              clear hd2
              have hnx := els_next HEQ.out (show elems (s.data.toList.drop i) = (elems (s.data.toList.drop (i + 2))).map (((0, s[i + 1]'hlt2) : PEl) :: ·) by rw [HDR.out, HD2.out, u8_of (n := 92) (by decide) h3]; exact elems_esc _ _)
              have HNX := Lib.hid hnx
              have hlen9 : es.length ≤ 1000000000000 := by omega
              clear hnx
              go_upto_region 15 with fail
              go_wp2_with (at_builtin; with_reducible refine ap2c hrow hlen9 hsz rfl _ _ rfl rfl rfl ?_)
              intro v4 w4 hr4 hg4
              have hb4 := hrow.grown hg4 HB.out rfl
              obtain ⟨A4, C4, rfl⟩ := hr4.sl
              have HR4 := Lib.hid hr4
              have HB4 := Lib.hid hb4
              clear hr4 hg4 hb4 hrow
              go_wp2
              go_roundw
              case rel => exact ⟨i + 2, es ++ [((0, s[i + 1]'hlt2) : PEl)], A4, C4, by go_num, by omega, rfl, HR4.out, by simp; omega, HNX.out, HB4.out⟩
              case measure => simp [intOf]; omega
            · have hnone : elems s.data.toList = none := by
                have h5 : s.data.toList.drop (i + 1) = [] := List.drop_eq_nil_of_le (by rw [← HSL.out]; omega)
                rw [HEQ.out, HDR.out, h5, u8_of (n := 92) (by decide) h3]; rfl
              have HNN := Lib.hid hnone
              have h6 : (i : Int) + 1 = s.size := by omega
              clear hnone
              go_wp2
              go_ret2
              exact ⟨fun es h => absurd (HNN.out.symm.trans h) (by simp), fun _ => ⟨rfl, HB.out⟩⟩
          · have hne1 := Lib.hid (u8_ne (n := 42) (by decide) h1)
            have hne2 := Lib.hid (u8_ne (n := 63) (by decide) h2)
            have hne3 := Lib.hid (u8_ne (n := 92) (by decide) h3)
            have hlen9 : es.length ≤ 1000000000000 := by omega
            have hnx := els_next HEQ.out (show elems (s.data.toList.drop i) = (elems (s.data.toList.drop (i + 1))).map (((0, s[i]'hlt) : PEl) :: ·) by rw [HDR.out]; exact elems_let _ hne1.out hne2.out hne3.out)
            have HNX := Lib.hid hnx
            clear hnx
            go_upto_region 6 with fail
            go_wp2_with (at_builtin; with_reducible refine ap2c hrow hlen9 hsz rfl _ _ rfl rfl rfl ?_)
            intro v4 w4 hr4 hg4
            have hb4 := hrow.grown hg4 HB.out rfl
            obtain ⟨A4, C4, rfl⟩ := hr4.sl
            have HR4 := Lib.hid hr4
            have HB4 := Lib.hid hb4
            clear hr4 hg4 hb4 hrow
            go_wp2
            go_roundw
            case rel => exact ⟨i + 1, es ++ [((0, s[i]'hlt) : PEl)], A4, C4, by go_num, by omega, rfl, HR4.out, by simp; omega, HNX.out, HB4.out⟩
            case measure => simp [intOf]; omega
    · obtain rfl : i = s.size := by omega
      have hall : elems s.data.toList = some es := by
        rw [heq, List.drop_eq_nil_of_le (by rw [← HSL.out]; exact Nat.le_refl _)]; simp [elems]
      have HA := Lib.hid hall
      clear hall heq
      go_wp2
      go_ret2
      exact ⟨fun es' h => by
        have : es = es' := Option.some.inj (HA.out.symm.trans h)
        subst this
        exact ⟨_, rfl, hrow, hb⟩, fun h => absurd (HA.out.symm.trans h) (by simp)⟩
end Go.Proofs.YtejmjjgbbojfbaaDoor

/- The machine of a pattern: what it computes, and the walks of its methods. -/
namespace Go.Proofs.YtejmjjgbbojfbaaDoor
set_option linter.unusedVariables false
open Go.ChangeShapes Go.WideShapes Go.ChangeAt Go.RowKit

def bitB (b : Bool) : UInt8 := if b then 1 else 0
def bitsB (l : List Bool) : List UInt8 := l.map bitB
theorem bitsB_length (l : List Bool) : (bitsB l).length = l.length := by simp [bitsB]
def strB (l : List Bool) : ByteArray := strOf (bitsB l)
def boolsOf (d : ByteArray) : List Bool := d.data.toList.map fun b => b == 1
theorem boolsOf_strB (l : List Bool) : boolsOf (strB l) = l := by
  unfold boolsOf strB strOf bitsB
  rw [List.toList_toArray, List.map_map]
  conv => rhs; rw [← List.map_id l]
  exact List.map_congr_left fun b _ => by cases b <;> rfl
def PEl.k (es : List PEl) (i : Nat) : Nat := (es.getD i (0, 0)).1
def PEl.b (es : List PEl) (i : Nat) : UInt8 := (es.getD i (0, 0)).2
/-- The first i elements let a star match nothing. -/
def closeI (es : List PEl) (s : List Bool) : Nat → List Bool
  | 0 => s
  | i + 1 => if (closeI es s i).getD i false = true ∧ PEl.k es i = 2 then (closeI es s i).set (i + 1) true else closeI es s i
theorem closeI_length (es : List PEl) (s : List Bool) (i : Nat) : (closeI es s i).length = s.length := by
  induction i with
  | zero => rfl
  | succ i ih => rw [closeI]; split <;> simp [ih]
/-- Does element i take the letter b from the set D? -/
def takes (es : List PEl) (D : List Bool) (b : UInt8) (i : Nat) : Prop :=
  (PEl.k es i = 2 ∧ D.getD (i + 1) false = true) ∨ (PEl.k es i = 1 ∧ D.getD i false = true) ∨ (PEl.k es i = 0 ∧ PEl.b es i = b ∧ D.getD i false = true)
instance (es : List PEl) (D : List Bool) (b : UInt8) (i : Nat) : Decidable (takes es D b i) := by unfold takes; infer_instance
def stepI (es : List PEl) (D : List Bool) (b : UInt8) : Nat → List Bool
  | 0 => List.replicate D.length false
  | i + 1 => if takes es D b i then (stepI es D b i).set (i + 1) true else stepI es D b i
theorem stepI_length (es : List PEl) (D : List Bool) (b : UInt8) (i : Nat) : (stepI es D b i).length = D.length := by
  induction i with
  | zero => simp [stepI]
  | succ i ih => rw [stepI]; split <;> simp [ih]
def startL (es : List PEl) : List Bool := closeI es ((List.replicate (es.length + 1) false).set 0 true) es.length
def stepL (es : List PEl) (D : List Bool) (b : UInt8) : List Bool := closeI es (stepI es D b es.length) es.length
def wildM (es : List PEl) : Mach where
  start := strB (startL es)
  step d b := if (stepL es (boolsOf d) b).any id then strB (stepL es (boolsOf d) b) else ⟨#[]⟩
  acc d := (boolsOf d).getD es.length false
def setV (s : List Bool) : List Value := bytesV (bitsB s)
theorem setV_length (s : List Bool) : (setV s).length = s.length := by simp [setV, bytesV, bitsB]
theorem setV_set (s : List Bool) (i : Nat) : (setV s).set i (.int .u8 1) = setV (s.set i true) := by
  unfold setV bytesV bitsB
  rw [List.map_map, List.map_map, List.map_set]; rfl
theorem setV_get {s : List Bool} {i : Nat} (h : i < s.length) : (setV s)[i]? = some (.int .u8 (if s.getD i false then 1 else 0)) := by
  unfold setV bytesV bitsB
  rw [List.map_map, List.getElem?_map, List.getElem?_eq_getElem h]
  have : s.getD i false = s[i] := by rw [List.getD_eq_getElem?_getD, List.getElem?_eq_getElem h]; rfl
  rw [this]
  cases s[i] <;> rfl
theorem madeB (n : Nat) : madeCells #[.int .u8 0] n = (setV (List.replicate n false)).toArray := by
  refine Array.ext (by rw [size_madeCells]; simp [setV_length]) fun i h1 h2 => ?_
  simp [madeCells, setV, bytesV, bitsB, bitB, Nat.mod_one]
/-- The list of elements reads so, whatever is made or turned from base on. -/
def RdL (base : Nat) (w : World) (v : Value) (es : List PEl) : Prop := ∀ w', Below base w w' → RdE w' v es
theorem RdE.k {w : World} {a : Option Addr} {n c : Nat} {es : List PEl} (h : RdE w (.slice a n c) es) : n = es.length ∧ ∀ i, i < es.length → ∃ g, a = some ⟨g, 0, none⟩ ∧ w.cell? ⟨g, i * 2, none⟩ = some (.int .i64 (PEl.k es i : Nat)) ∧ w.cell? ⟨g, i * 2 + 1, none⟩ = some (.int .u8 ((PEl.b es i).toNat : Nat)) := by
  obtain ⟨a', c', hv, h⟩ := h
  injection hv with e1 e2 e3
  subst e1 e2 e3
  refine ⟨rfl, fun i hi => ?_⟩
  obtain ⟨g, e, hg⟩ := h (by omega)
  have hd : es.getD i (0, 0) = es[i] := by rw [List.getD_eq_getElem?_getD, List.getElem?_eq_getElem hi]; rfl
  exact ⟨g, e, by unfold PEl.k; rw [hd]; exact (hg i hi).1, by unfold PEl.b; rw [hd]; exact (hg i hi).2⟩

set_option maxRecDepth 100000 in
set_option maxHeartbeats 1000000 in
theorem close_any (w : World) (base g c : Nat) (a : Option Addr) (n ca : Nat) (es : List PEl) (s : List Bool) (hr : RdL base w (.slice a n ca) es) (hown : Own w base 5 (.slice (some ⟨g, 0, none⟩) s.length c) (setV s)) (hlen : s.length = es.length + 1) (hb : base ≤ w.heap.size) (hes : es.length ≤ 1000000000000) :
    Calls Tryd.prog 117 #[.agg #[.slice a n ca], .slice (some ⟨g, 0, none⟩) s.length c] w fun e w' => e = .returned (.tuple #[]) ∧ Own w' base 5 (.slice (some ⟨g, 0, none⟩) s.length c) (setV (closeI es s es.length)) ∧ Eff (· = g) w w' := by
  obtain rfl := (hr w (Below.refl _ _)).k.1
  have hg : base ≤ g := (hown.lt g rfl).1
  have HR := Lib.hid hr
  have HL := Lib.hid hlen
  have ho1 := hown.alloc (.cells #[.slice a es.length ca] 93)
  have HO := Lib.hid ho1
  clear hr hown ho1 hlen
  go_enter Tryd.func117, Tryd.ntmps117
  go_wp2
  go_loopw [9] (fun s9 wr => ∃ i : Nat, s9 = .int .i64 i ∧ i ≤ es.length ∧ Own wr base 5 (.slice (some ⟨g, 0, none⟩) s.length c) (setV (closeI es s i)) ∧ Eff (· = g) w wr) (fun s9 _ => es.length - (intOf s9).toNat)
  case atStart => exact ⟨0, rfl, Nat.zero_le _, HO.out, (Eff.refl _ _).alloc _⟩
  case round =>
    clear HO
    obtain ⟨i, rfl, hi, hown, heff⟩ := hrel
    have hbl : Below base w wr := heff.below (fun k hk => by subst hk; exact hg) hb
    by_cases hlt : i < es.length
    · obtain ⟨gl, rfl, k0, k1⟩ := (HR.out wr hbl).k.2 i hlt
      have hsl1 : s.length ≤ es.length + 1 := Nat.le_of_eq HL.out
      have hsl2 : es.length + 1 ≤ s.length := Nat.le_of_eq HL.out.symm
      obtain ⟨t, ht⟩ : ∃ t, closeI es s i = t := ⟨_, rfl⟩
      have htl : t.length = es.length + 1 := by rw [← ht, closeI_length]; exact HL.out
      have hc1 : closeI es s (i + 1) = if t.getD i false = true ∧ PEl.k es i = 2 then t.set (i + 1) true else t := by rw [closeI, ht]
      rw [ht] at hown
      obtain ⟨o1, ho1⟩ : ∃ o1, o1 = Obj.cells #[.int .i64 (PEl.k es i : Nat), .int .u8 ((PEl.b es i).toNat : Nat)] 131 := ⟨_, rfl⟩
      have hown1 := hown.alloc o1
      have hget := hown1.get (setV_get (s := t) (i := i) (by omega))
      have hget1 := hown1.get (setV_get (s := t) (i := i + 1) (by omega))
      have hfz := hown1.frozen (i + 1)
      have hset := hown1.set (i + 1) (.int .u8 1)
      rw [setV_set] at hset
      have heff1 := heff.alloc o1
      have heff2 := heff1.setCell (p := ⟨g, i + 1, none⟩) (fun _ => rfl) (.int .u8 1)
      obtain ⟨kk, hkk⟩ : ∃ kk : Int, ((PEl.k es i : Nat) : Int) = kk := ⟨_, rfl⟩
      rw [hkk] at k0 ho1
      have HKK := Lib.hid hkk
      rw [ho1] at hget hget1 hfz hset heff1 heff2 hown1
      have HC := Lib.hid hc1
      have HS := Lib.hid hset
      have HE1 := Lib.hid heff1
      have HE2 := Lib.hid heff2
      have HW1 := Lib.hid hown1
      clear ht hkk ho1 hc1 hset heff1 heff2 hown1 hown heff hbl htl
      obtain ⟨bb, hbb⟩ : ∃ bb, t.getD i false = bb := ⟨_, rfl⟩
      rw [hbb] at hget
      have HBB := Lib.hid hbb
      clear hbb
      cases bb with
      | false =>
        simp only [Bool.false_eq_true, if_false] at hget
        go_wp2
        go_roundw
        case rel => exact ⟨i + 1, by go_num, by omega, by rw [HC.out, if_neg (by rw [HBB.out]; simp)]; exact HW1.out, HE1.out⟩
        case measure => simp [intOf]; omega
      | true =>
        simp only [if_true] at hget
        by_cases hk : kk = 2
        · subst hk
          go_wp2
          go_roundw
          case rel => exact ⟨i + 1, by go_num, by omega, by rw [HC.out, if_pos ⟨HBB.out, by have := HKK.out; omega⟩]; exact HS.out, HE2.out⟩
          case measure => simp [intOf]; omega
        · have HK := Lib.hid hk
          go_wp2
          go_roundw
          case rel => exact ⟨i + 1, by go_num, by omega, by rw [HC.out, if_neg (fun h => HK.out (by have := HKK.out; omega))]; exact HW1.out, HE1.out⟩
          case measure => simp [intOf]; omega
    · obtain rfl : i = es.length := by omega
      go_wp2
      go_end0
      exact ⟨rfl, hown, heff⟩
end Go.Proofs.YtejmjjgbbojfbaaDoor

/- The walks of a pattern's machine: start, accepts, step. -/
namespace Go.Proofs.YtejmjjgbbojfbaaDoor
set_option linter.unusedVariables false
open Go.ChangeShapes Go.WideShapes Go.ChangeAt Go.RowKit

theorem RdE.rl {w : World} {v : Value} {es : List PEl} (h : RdE w v es) {base : Nat} {w1 : World} (hb : Below w.heap.size w w1) (hB : w.heap.size ≤ base) : RdL base w1 v es :=
  fun w' hb' => h.below (hb.trans (hb'.mono hB))
set_option maxRecDepth 100000 in
set_option maxHeartbeats 1000000 in
theorem wstart_any (w : World) (a : Option Addr) (n ca : Nat) (es : List PEl) (hr : RdE w (.slice a n ca) es) (hes : es.length ≤ 1000000000) :
    Calls Tryd.prog 115 #[.agg #[.slice a n ca]] w fun e w' => e = .returned (.string (strB (startL es))) ∧ Below w.heap.size w w' := by
  obtain rfl := hr.k.1
  obtain ⟨N, hN⟩ : ∃ N, N = es.length + 1 := ⟨_, rfl⟩
  have HN := Lib.hid hN
  have q1 : (es.length : Int) + 1 = (N : Int) := by omega
  have q2 : (N : Int) ≤ 1000000001 := by omega
  have q3 : N ≤ 1000000000000 := by omega
  have q4 : 0 < N := by omega
  clear hN
  obtain ⟨ob, hob⟩ : ∃ ob, ob = Obj.cells #[.slice a es.length ca] 93 := ⟨_, rfl⟩
  obtain ⟨om, hom⟩ : ∃ om, om = Obj.cells ((madeCells #[.int .u8 0] N).setIfInBounds 0 (.int .u8 1)) 5 := ⟨_, rfl⟩
  have hb2 : Below w.heap.size w ((w.alloc ob).alloc om) := ((Below.refl _ _).alloc (Nat.le_refl _) _).alloc (by simp) _
  have hs1 : (w.alloc ob).heap.size = w.heap.size + 1 := by simp
  have hmc : (madeCells #[.int .u8 0] N).setIfInBounds 0 (.int .u8 1) = (setV ((List.replicate N false).set 0 true)).toArray := by
    rw [madeB, ← setV_set]; simp
  have ho2 : Own ((w.alloc ob).alloc om) (w.heap.size + 1) 5 (.slice (some ⟨w.heap.size + 1, 0, none⟩) N N) (setV ((List.replicate N false).set 0 true)) := by
    have h := own_lit (w.alloc ob) (w.heap.size + 1) 5 (setV ((List.replicate N false).set 0 true)) (by rw [hs1]; exact Nat.le_refl _) (by rw [setV_length]; simp [maxLen]; omega)
    rw [← hmc, ← hom, hs1, setV_length, List.length_set, List.length_replicate] at h
    exact h
  have hl2 : ((List.replicate N false).set 0 true).length = N := by simp
  have hrl : RdL (w.heap.size + 1) ((w.alloc ob).alloc om) (.slice a es.length ca) es := hr.rl hb2 (by omega)
  have C1 := close_any ((w.alloc ob).alloc om) (w.heap.size + 1) (w.heap.size + 1) N a es.length ca es _ hrl (by rw [hl2]; exact ho2) (by rw [hl2]; exact HN.out) (by simp) (by omega)
  rw [hl2] at C1
  have hst : closeI es ((List.replicate N false).set 0 true) es.length = startL es := by unfold startL; rw [HN.out]
  rw [hst] at C1
  have HB2 := Lib.hid hb2
  have HS1 := Lib.hid hs1
  have HOB := Lib.hid hob
  have HOM := Lib.hid hom
  have hc0 : (((w.alloc ob).alloc (.cells (madeCells #[.int .u8 0] N) 5))).cell? ⟨w.heap.size + 1, 0, none⟩ = some (.int .u8 0) := by
    have h := heap_alloc_new (w.alloc ob) (.cells (madeCells #[.int .u8 0] N) 5)
    rw [hs1] at h
    rw [blk_cell h 0, madeB]
    have := setV_get (s := List.replicate N false) (i := 0) (by simp; omega)
    rw [List.getD_eq_getElem?_getD, List.getElem?_replicate] at this
    simpa [q4] using this
  rw [hob] at hc0
  rw [hob, hom] at C1
  clear hrl hl2 hb2 ho2 hs1 hr hst hob hom hmc
  have hmk := fun (w : World) => make_row elBytes rfl N q3 (N : Int) rfl w
  go_enter Tryd.func115, Tryd.ntmps115
  go_wp2_with fail
  refine C1.mono ?_
  rintro e w2 ⟨rfl, ho3, he3⟩
  rw [← HOB.out, ← HOM.out] at he3
  have hb3 := HB2.out.trans (he3.below (B := w.heap.size) (fun k hk => by subst hk; omega) HB2.out.size)
  have r4 := run_str (P := Tryd.prog) Tryd.underlying26 Tryd.underlying5 Tryd.underlying9 ho3.rd
  have HB3 := Lib.hid hb3
  clear C1 ho3 he3 hb3
  go_wp2
  go_ret
  exact ⟨rfl, HB3.out⟩

set_option maxRecDepth 100000 in
theorem wacc_any (w : World) (a : Option Addr) (n ca : Nat) (es : List PEl) (hr : RdE w (.slice a n ca) es) (hes : es.length ≤ 1000000000) (d : ByteArray) (D : List Bool) (hd : d = strB D) (hD : D.length = es.length + 1) :
    Calls Tryd.prog 114 #[.agg #[.slice a n ca], .string d] w fun e w' => e = .returned (.bool (D.getD es.length false)) ∧ Below w.heap.size w w' := by
  obtain rfl := hr.k.1
  have hsz : d.size = es.length + 1 := by rw [hd, strB, strOf_size, bitsB_length, hD]
  have hlt : es.length < d.size := by omega
  have hix : ((d[es.length]'hlt).toNat : Int) = if D.getD es.length false then 1 else 0 := by
    have e : d.data.toList = bitsB D := by rw [hd]; unfold strB strOf; rw [List.toList_toArray]
    have e2 : d[es.length]'hlt = d.data.toList[es.length]'(by rw [e, bitsB_length]; omega) := rfl
    have e3 : (bitsB D)[es.length]? = some (bitB (D.getD es.length false)) := by
      unfold bitsB; rw [List.getElem?_map, List.getElem?_eq_getElem (by omega), List.getD_eq_getElem?_getD, List.getElem?_eq_getElem (by omega)]; rfl
    have e4 : (d.data.toList)[es.length]? = some (bitB (D.getD es.length false)) := by rw [e]; exact e3
    have e5 := List.getElem?_eq_some_iff.1 e4
    obtain ⟨_, e6⟩ := e5
    rw [e2, e6]
    cases D.getD es.length false <;> rfl
  obtain ⟨bb, hbb⟩ : ∃ bb, D.getD es.length false = bb := ⟨_, rfl⟩
  rw [hbb] at hix ⊢
  have HB := Lib.hid (fun o => (Below.refl w.heap.size w).alloc (Nat.le_refl _) o)
  clear hd hD hsz hbb hr
  cases bb with
  | false =>
    simp only [Bool.false_eq_true, if_false] at hix
    go_enter Tryd.func114, Tryd.ntmps114
    go_wp2
    go_ret
    exact ⟨rfl, HB.out _⟩
  | true =>
    simp only [if_true] at hix
    go_enter Tryd.func114, Tryd.ntmps114
    go_wp2
    go_ret
    exact ⟨rfl, HB.out _⟩
end Go.Proofs.YtejmjjgbbojfbaaDoor
