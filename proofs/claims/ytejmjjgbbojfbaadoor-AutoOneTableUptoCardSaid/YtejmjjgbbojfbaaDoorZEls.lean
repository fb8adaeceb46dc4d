/- The elements of a pattern: plain, their memory, and the walk of auto.elements. -/
import Derived.Test.YtejmjjgbbojfbaaDoorZG2
import Derived.BigQuiet
namespace Go.Proofs.YtejmjjgbbojfbaaDoor
set_option linter.unusedVariables false
open Go.ChangeShapes Go.WideShapes Go.ChangeAt Go.RowKit

/-- An element: 0 a letter, 1 a gap, 2 a star. -/
abbrev PEl := Nat × UInt8
def elems : List UInt8 → Option (List PEl)
  | [] => some []
  | [c] => if c = 42 then some [(2, 0)] else if c = 63 then some [(1, 0)] else if c = 92 then none else some [(0, c)]
  | c :: d :: r => if c = 42 then (elems (d :: r)).map ((2, 0) :: ·) else if c = 63 then (elems (d :: r)).map ((1, 0) :: ·) else if c = 92 then (elems r).map ((0, d) :: ·) else (elems (d :: r)).map ((0, c) :: ·)
theorem elems_star (r : List UInt8) : elems (42 :: r) = (elems r).map ((2, 0) :: ·) := by cases r <;> rfl
theorem elems_gap (r : List UInt8) : elems (63 :: r) = (elems r).map ((1, 0) :: ·) := by cases r <;> rfl
theorem elems_esc (d : UInt8) (r : List UInt8) : elems (92 :: d :: r) = (elems r).map ((0, d) :: ·) := rfl
theorem elems_esc0 : elems [92] = none := rfl
theorem elems_let {c : UInt8} (r : List UInt8) (h1 : c ≠ 42) (h2 : c ≠ 63) (h3 : c ≠ 92) : elems (c :: r) = (elems r).map ((0, c) :: ·) := by
  cases r with
  | nil => simp [elems, h1, h2, h3]
  | cons d r => simp [elems, h1, h2, h3]
def eCells (e : PEl) : List Value := [.int .i64 (e.1 : Nat), .int .u8 (e.2.toNat : Nat)]
/-- v is a list of elements of the call's own. -/
def Row2 (w : World) (base : Nat) (v : Value) (es : List PEl) : Prop := w.ownsRow base 131 2 v es.length (es.flatMap eCells)
/-- A list of elements that reads. -/
def RdE (w : World) (v : Value) (es : List PEl) : Prop :=
  ∃ a c, v = .slice a es.length c ∧ (0 < es.length → ∃ g, a = some ⟨g, 0, none⟩ ∧ ∀ (i : Nat) (h : i < es.length), w.cell? ⟨g, i * 2, none⟩ = some (.int .i64 (es[i].1 : Nat)) ∧ w.cell? ⟨g, i * 2 + 1, none⟩ = some (.int .u8 (es[i].2.toNat : Nat)))
theorem RdE.below {w w' : World} {v : Value} {es : List PEl} (h : RdE w v es) (hb : Below w.heap.size w w') : RdE w' v es := by
  obtain ⟨a, c, hv, h⟩ := h
  refine ⟨a, c, hv, fun h0 => ?_⟩
  obtain ⟨g, e, hg⟩ := h h0
  refine ⟨g, e, fun i hi => ?_⟩
  obtain ⟨h1, h2⟩ := hg i hi
  exact ⟨by rw [hb.cell (World.block_lt_of_cell? w _ h1)]; exact h1, by rw [hb.cell (World.block_lt_of_cell? w _ h2)]; exact h2⟩
theorem flat2_get : ∀ (es : List PEl) (i j : Nat) (h : i < es.length), j < 2 → (es.flatMap eCells)[i * 2 + j]? = (eCells es[i])[j]?
  | e :: es, 0, j, _, hj => by
    rw [List.flatMap_cons, List.getElem?_append_left (by simp [eCells]; omega)]
    simp
  | e :: es, i + 1, j, h, hj => by
    rw [List.flatMap_cons, List.getElem?_append_right (by simp [eCells]; omega), show (eCells e).length = 2 from rfl, show (i + 1) * 2 + j - 2 = i * 2 + j by omega]
    exact flat2_get es i j (by simpa using h) hj
theorem Row2.rd {w : World} {base : Nat} {v : Value} {es : List PEl} (h : Row2 w base v es) : RdE w v es := by
  rcases h.2 with ⟨hv, h0⟩ | ⟨g, cap, cur, hv, hb, hg, hn, _⟩
  · exact ⟨none, 0, by rw [hv, h0], fun h1 => by omega⟩
  · have hc := World.ownsRow.cells h (g := g) (by rw [hv]; rfl)
    refine ⟨some ⟨g, 0, none⟩, cap, hv, fun h1 => ⟨g, rfl, fun i hi => ?_⟩⟩
    have h2 := hc (i * 2 + 0) (.int .i64 (es[i].1 : Nat)) (by rw [flat2_get es i 0 hi (by omega)]; rfl)
    have h3 := hc (i * 2 + 1) (.int .u8 (es[i].2.toNat : Nat)) (by rw [flat2_get es i 1 hi (by omega)]; rfl)
    rw [addr_add, Nat.zero_add] at h2 h3
    exact ⟨h2, h3⟩
theorem Row2.sl {w : World} {base : Nat} {v : Value} {es : List PEl} (h : Row2 w base v es) : ∃ a c, v = .slice a es.length c := by
  obtain ⟨a, c, hv, _⟩ := h.rd; exact ⟨a, c, hv⟩
theorem row2_nil (w : World) (base : Nat) : Row2 w base (.slice none 0 0) [] := World.ownsRow_nil w base 131 2
theorem el_info : (Tryd.prog.info? 131).map (fun i => (i.size, i.bytes, (i.zero.map fun z => z.cells.size))) = some (2, 16, some 2) := by kernel_rfl
set_option maxRecDepth 100000 in
theorem ap2 {w0 : World} {k : Int} {b : Int} {e : PEl} (hk : k = (e.1 : Nat)) (hbb : b = (e.2.toNat : Nat)) {base : Nat} {v : Value} {es : List PEl} (hown : Row2 w0 base v es) (hlen : es.length ≤ 1000000000000) (hbase : base ≤ w0.heap.size)
    {ops : Array Oper} {rest : List Oper} {o : Oper} {a : Act} {Q : Exit → Act → World → Prop} (hgd : o.guard = none) (x y : Operand)
    (ho : o.op = .call { callee := .builtin .append, args := #[x, y], argTypes := #[89, 89] }) (hs : a.eval x = v) (hy : a.eval y = .slice (some ⟨w0.heap.size, 0, none⟩) 1 1)
    (h : ∀ v' w', Row2 w' base v' (es ++ [e]) → w0.grownBy w' v.ownBlock → wpList Tryd.prog ops Q rest (a.put o.dst v') w') :
    wpList Tryd.prog ops Q (o :: rest) a (w0.alloc (.cells #[.int .i64 k, .int .u8 b] 131)) := by
  subst hk hbb
  obtain ⟨i0, hi, hrest⟩ := Option.map_eq_some_iff.1 el_info
  simp only [Prod.mk.injEq] at hrest
  obtain ⟨h8, hby, hz⟩ := hrest
  obtain ⟨z, hz, hzs⟩ := Option.map_eq_some_iff.1 hz
  refine wpList_append_own (P := Tryd.prog) _ hgd x y 89 ho base 131 i0 z 2 16 Tryd.underlying89 hi hz h8 hby hzs (by decide) v es.length _ hs (World.ownsRow.alloc hown _) ⟨w0.heap.size, 0, none⟩ 1 1
    (eCells e) hy rfl (fun j x hx => ?_) ?_ (by unfold maxLen; omega) (by omega) (by simp; omega) ?_
  · rw [addr_add, Nat.zero_add, blk_cell (heap_alloc_new w0 _) j]
    rw [← hx]; simp [eCells]
  · intro x hx
    simp only [eCells, List.mem_cons, List.not_mem_nil, or_false] at hx
    rcases hx with rfl | rfl <;> rfl
  · intro v' w' h1 h2 _
    refine h v' w' ?_ ?_
    · unfold Row2; rw [List.flatMap_append, List.length_append]; simpa using h1
    · exact ⟨h2.os, h2.tape, h2.output, Nat.le_trans (by simp) h2.size, fun k hk hne => (h2.block k (by simp; omega) hne).trans (Below.heap_alloc _ _ _ hk)⟩
theorem ap2c {w0 : World} {c : UInt8} {base : Nat} {v : Value} {es : List PEl} (hown : Row2 w0 base v es) (hlen : es.length ≤ 1000000000000) (hbase : base ≤ w0.heap.size)
    {ops : Array Oper} {rest : List Oper} {o : Oper} {a : Act} {Q : Exit → Act → World → Prop} (hgd : o.guard = none) (x y : Operand)
    (ho : o.op = .call { callee := .builtin .append, args := #[x, y], argTypes := #[89, 89] }) (hs : a.eval x = v) (hy : a.eval y = .slice (some ⟨w0.heap.size, 0, none⟩) 1 1)
    (h : ∀ v' w', Row2 w' base v' (es ++ [(0, c)]) → w0.grownBy w' v.ownBlock → wpList Tryd.prog ops Q rest (a.put o.dst v') w') :
    wpList Tryd.prog ops Q (o :: rest) a (w0.alloc (.cells #[.int .i64 0, .int .u8 (c.toNat : Nat)] 131)) :=
  ap2 (e := (0, c)) rfl rfl hown hlen hbase hgd x y ho hs hy h
theorem Row2.grown {w w' : World} {base : Nat} {v : Value} {es : List PEl} (h : Row2 w base v es) (hg : w.grownBy w' v.ownBlock) {w0 : World} (hb : Below base w0 w) (hB : w0.heap.size = base) : Below base w0 w' :=
  ⟨hg.os.trans hb.os, hg.tape.trans hb.tape, hg.output.trans hb.output, Nat.le_trans hb.size hg.size, fun k hk => (hg.block k (Nat.lt_of_lt_of_le (by omega) hb.size) (fun e => by have := (World.ownsRow.lt h k e.symm).1; omega)).trans (hb.block k hk)⟩

theorem els_next {s r r' : List UInt8} {es : List PEl} {e : PEl} (h : elems s = (elems r).map (es ++ ·)) (hr : elems r = (elems r').map (e :: ·)) : elems s = (elems r').map ((es ++ [e]) ++ ·) := by
  rw [h, hr]; cases elems r' <;> simp
theorem u8_of {c : UInt8} {n : Nat} (hn : n < 256) (h : (c.toNat : Int) = n) : c = UInt8.ofNat n := by
  apply UInt8.toNat_inj.1
  have : (UInt8.ofNat n).toNat = n := by simp; omega
  omega
theorem u8_ne {c : UInt8} {n : Nat} (hn : n < 256) (h : ¬ (c.toNat : Int) = n) : c ≠ UInt8.ofNat n := fun e => h (by rw [e]; simp; omega)
/-- What elements answers. -/
def ElsPost (w : World) (s : ByteArray) (e : Ending) (w' : World) : Prop :=
  (∀ es, elems s.data.toList = some es → ∃ v, e = .returned (.tuple #[v, .bool true]) ∧ Row2 w' w.heap.size v es ∧ Below w.heap.size w w') ∧
  (elems s.data.toList = none → e = .returned (.tuple #[.slice none 0 0, .bool false]) ∧ Below w.heap.size w w')
set_option maxRecDepth 100000 in
set_option maxHeartbeats 1000000 in
theorem elements_any (w : World) (s : ByteArray) (hs : s.size ≤ 1000000000000) :
    Calls Tryd.prog 50 #[.string s] w (ElsPost w s) := by
  have hsl : s.size = s.data.toList.length := (Array.length_toList (xs := s.data)).symm
  have HSL := Lib.hid hsl
  clear hsl
  go_enter Tryd.func50, Tryd.ntmps50
  go_wp2
  go_loopw [4, 5] (fun s4 s5 wr => ∃ (i : Nat) (es : List PEl) (A : Option Addr) (C : Nat), s5 = .int .i64 i ∧ i ≤ s.size ∧ s4 = .slice A es.length C ∧ Row2 wr w.heap.size (.slice A es.length C) es ∧ es.length ≤ i ∧ elems s.data.toList = (elems (s.data.toList.drop i)).map (es ++ ·) ∧ Below w.heap.size w wr) (fun _ s5 _ => s.size - (intOf s5).toNat)
  case atStart => exact ⟨0, [], none, 0, rfl, Nat.zero_le _, rfl, row2_nil _ _, Nat.le_refl _, by simp, Below.refl _ _⟩
  case round =>
    obtain ⟨i, es, A, C, rfl, hi, rfl, hrow, hle, heq, hb⟩ := hrel
    have hsz := hb.size
    by_cases hlt : i < s.size
    · have hil : i < s.data.toList.length := by rw [← HSL.out]; exact hlt
      have hdrop : s.data.toList.drop i = s[i]'hlt :: s.data.toList.drop (i + 1) := List.drop_eq_getElem_cons hil
      have HEQ := Lib.hid heq
      have HDR := Lib.hid hdrop
      have HB := Lib.hid hb
      clear heq hdrop hb
      by_cases h1 : ((s[i]'hlt).toNat : Int) = 42
      · have HK := Lib.hid (show (2 : Int) = (((2, 0) : PEl).1 : Nat) from rfl)
        have HBB := Lib.hid (show (0 : Int) = (((2, 0) : PEl).2.toNat : Nat) from rfl)
        have hlen9 : es.length ≤ 1000000000000 := by omega
        have hnx := els_next HEQ.out (show elems (s.data.toList.drop i) = (elems (s.data.toList.drop (i + 1))).map (((2, 0) : PEl) :: ·) by rw [HDR.out, u8_of (n := 42) (by decide) h1]; exact elems_star _)
        have HNX := Lib.hid hnx
        clear hnx
        go_upto_region 8 with fail
        go_wp2_with (at_builtin; with_reducible refine ap2 HK.out HBB.out hrow hlen9 hsz rfl _ _ rfl rfl rfl ?_)
        intro v4 w4 hr4 hg4
        have hb4 := hrow.grown hg4 HB.out rfl
        obtain ⟨A4, C4, rfl⟩ := hr4.sl
        have HR4 := Lib.hid hr4
        have HB4 := Lib.hid hb4
        clear hr4 hg4 hb4 hrow
        go_wp2
        go_roundw
        case rel => exact ⟨i + 1, es ++ [((2, 0) : PEl)], A4, C4, by go_num, by omega, rfl, HR4.out, by simp; omega, HNX.out, HB4.out⟩
        case measure => simp [intOf]; omega
      · by_cases h2 : ((s[i]'hlt).toNat : Int) = 63
        · have HK := Lib.hid (show (1 : Int) = (((1, 0) : PEl).1 : Nat) from rfl)
          have HBB := Lib.hid (show (0 : Int) = (((1, 0) : PEl).2.toNat : Nat) from rfl)
          have hlen9 : es.length ≤ 1000000000000 := by omega
          have hnx := els_next HEQ.out (show elems (s.data.toList.drop i) = (elems (s.data.toList.drop (i + 1))).map (((1, 0) : PEl) :: ·) by rw [HDR.out, u8_of (n := 63) (by decide) h2]; exact elems_gap _)
          have HNX := Lib.hid hnx
          clear hnx
          go_upto_region 10 with fail
          go_wp2_with (at_builtin; with_reducible refine ap2 HK.out HBB.out hrow hlen9 hsz rfl _ _ rfl rfl rfl ?_)
          intro v4 w4 hr4 hg4
          have hb4 := hrow.grown hg4 HB.out rfl
          obtain ⟨A4, C4, rfl⟩ := hr4.sl
          have HR4 := Lib.hid hr4
          have HB4 := Lib.hid hb4
          clear hr4 hg4 hb4 hrow
          go_wp2
          go_roundw
          case rel => exact ⟨i + 1, es ++ [((1, 0) : PEl)], A4, C4, by go_num, by omega, rfl, HR4.out, by simp; omega, HNX.out, HB4.out⟩
          case measure => simp [intOf]; omega
        · by_cases h3 : ((s[i]'hlt).toNat : Int) = 92
          · by_cases hlt2 : i + 1 < s.size
            · have hil2 : i + 1 < s.data.toList.length := by rw [← HSL.out]; exact hlt2
              have hd2 : s.data.toList.drop (i + 1) = s[i + 1]'hlt2 :: s.data.toList.drop (i + 2) := List.drop_eq_getElem_cons hil2
              have HD2 := Lib.hid hd2
              clear hd2
              have hnx := els_next HEQ.out (show elems (s.data.toList.drop i) = (elems (s.data.toList.drop (i + 2))).map (((0, s[i + 1]'hlt2) : PEl) :: ·) by rw [HDR.out, HD2.out, u8_of (n := 92) (by decide) h3]; exact elems_esc _ _)
              have HNX := Lib.hid hnx
              have hlen9 : es.length ≤ 1000000000000 := by omega
              clear hnx
              go_upto_region 15 with fail
              go_wp2_with (at_builtin; with_reducible refine ap2c hrow hlen9 hsz rfl _ _ rfl rfl rfl ?_)
              intro v4 w4 hr4 hg4
              have hb4 := hrow.grown hg4 HB.out rfl
              obtain ⟨A4, C4, rfl⟩ := hr4.sl
              have HR4 := Lib.hid hr4
              have HB4 := Lib.hid hb4
              clear hr4 hg4 hb4 hrow
              go_wp2
              go_roundw
              case rel => exact ⟨i + 2, es ++ [((0, s[i + 1]'hlt2) : PEl)], A4, C4, by go_num, by omega, rfl, HR4.out, by simp; omega, HNX.out, HB4.out⟩
              case measure => simp [intOf]; omega
            · have hnone : elems s.data.toList = none := by
                have h5 : s.data.toList.drop (i + 1) = [] := List.drop_eq_nil_of_le (by rw [← HSL.out]; omega)
                rw [HEQ.out, HDR.out, h5, u8_of (n := 92) (by decide) h3]; rfl
              have HNN := Lib.hid hnone
              have h6 : (i : Int) + 1 = s.size := by omega
              clear hnone
              go_wp2
              go_ret2
              exact ⟨fun es h => absurd (HNN.out.symm.trans h) (by simp), fun _ => ⟨rfl, HB.out⟩⟩
          · have hne1 := Lib.hid (u8_ne (n := 42) (by decide) h1)
            have hne2 := Lib.hid (u8_ne (n := 63) (by decide) h2)
            have hne3 := Lib.hid (u8_ne (n := 92) (by decide) h3)
            have hlen9 : es.length ≤ 1000000000000 := by omega
            have hnx := els_next HEQ.out (show elems (s.data.toList.drop i) = (elems (s.data.toList.drop (i + 1))).map (((0, s[i]'hlt) : PEl) :: ·) by rw [HDR.out]; exact elems_let _ hne1.out hne2.out hne3.out)
            have HNX := Lib.hid hnx
            clear hnx
            go_upto_region 6 with fail
            go_wp2_with (at_builtin; with_reducible refine ap2c hrow hlen9 hsz rfl _ _ rfl rfl rfl ?_)
            intro v4 w4 hr4 hg4
            have hb4 := hrow.grown hg4 HB.out rfl
            obtain ⟨A4, C4, rfl⟩ := hr4.sl
            have HR4 := Lib.hid hr4
            have HB4 := Lib.hid hb4
            clear hr4 hg4 hb4 hrow
            go_wp2
            go_roundw
            case rel => exact ⟨i + 1, es ++ [((0, s[i]'hlt) : PEl)], A4, C4, by go_num, by omega, rfl, HR4.out, by simp; omega, HNX.out, HB4.out⟩
            case measure => simp [intOf]; omega
    · obtain rfl : i = s.size := by omega
      have hall : elems s.data.toList = some es := by
        rw [heq, List.drop_eq_nil_of_le (by rw [← HSL.out]; exact Nat.le_refl _)]; simp [elems]
      have HA := Lib.hid hall
      clear hall heq
      go_wp2
      go_ret2
      exact ⟨fun es' h => by
        have : es = es' := Option.some.inj (HA.out.symm.trans h)
        subst this
        exact ⟨_, rfl, hrow, hb⟩, fun h => absurd (HA.out.symm.trans h) (by simp)⟩
end Go.Proofs.YtejmjjgbbojfbaaDoor
