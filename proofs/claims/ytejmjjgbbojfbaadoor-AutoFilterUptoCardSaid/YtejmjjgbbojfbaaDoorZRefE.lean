/- The document's elements of a pattern: their memory, the walk; Good, the document's Good. -/
import Derived.Test.YtejmjjgbbojfbaaDoorZG13
import Derived.BigQuiet
namespace Go.Proofs.YtejmjjgbbojfbaaDoor
set_option linter.unusedVariables false
open Go.ChangeShapes Go.WideShapes Go.ChangeAt Go.RowKit

def rCells (e : PEl) : List Value := [.bool (e.1 == 2), .bool (e.1 == 1), .int .u8 (e.2.toNat : Nat)]
/-- v is a list of elements of the call's own. -/
def Row3 (w : World) (base : Nat) (v : Value) (es : List PEl) : Prop := w.ownsRow base 129 3 v es.length (es.flatMap rCells)
/-- A list of elements that reads. -/
def RdR (w : World) (v : Value) (es : List PEl) : Prop :=
  ∃ a c, v = .slice a es.length c ∧ (0 < es.length → ∃ g, a = some ⟨g, 0, none⟩ ∧ ∀ (i : Nat) (h : i < es.length), w.cell? ⟨g, i * 3, none⟩ = some (.bool (es[i].1 == 2)) ∧ w.cell? ⟨g, i * 3 + 1, none⟩ = some (.bool (es[i].1 == 1)) ∧ w.cell? ⟨g, i * 3 + 2, none⟩ = some (.int .u8 (es[i].2.toNat : Nat)))
theorem RdR.below {w w' : World} {v : Value} {es : List PEl} (h : RdR w v es) (hb : Below w.heap.size w w') : RdR w' v es := by
  obtain ⟨a, c, hv, h⟩ := h
  refine ⟨a, c, hv, fun h0 => ?_⟩
  obtain ⟨g, e, hg⟩ := h h0
  refine ⟨g, e, fun i hi => ?_⟩
  obtain ⟨h1, h2, h3⟩ := hg i hi
  exact ⟨by rw [hb.cell (World.block_lt_of_cell? w _ h1)]; exact h1, by rw [hb.cell (World.block_lt_of_cell? w _ h2)]; exact h2, by rw [hb.cell (World.block_lt_of_cell? w _ h3)]; exact h3⟩
theorem flat3_get : ∀ (es : List PEl) (i j : Nat) (h : i < es.length), j < 3 → (es.flatMap rCells)[i * 3 + j]? = (rCells es[i])[j]?
  | e :: es, 0, j, _, hj => by
    rw [List.flatMap_cons, List.getElem?_append_left (by simp [rCells]; omega)]
    simp
  | e :: es, i + 1, j, h, hj => by
    rw [List.flatMap_cons, List.getElem?_append_right (by simp [rCells]; omega), show (rCells e).length = 3 from rfl, show (i + 1) * 3 + j - 3 = i * 3 + j by omega]
    exact flat3_get es i j (by simpa using h) hj
theorem Row3.rd {w : World} {base : Nat} {v : Value} {es : List PEl} (h : Row3 w base v es) : RdR w v es := by
  rcases h.2 with ⟨hv, h0⟩ | ⟨g, cap, cur, hv, hb, hg, hn, _⟩
  · exact ⟨none, 0, by rw [hv, h0], fun h1 => by omega⟩
  · have hc := World.ownsRow.cells h (g := g) (by rw [hv]; rfl)
    refine ⟨some ⟨g, 0, none⟩, cap, hv, fun h1 => ⟨g, rfl, fun i hi => ?_⟩⟩
    have h2 := hc (i * 3 + 0) _ (by rw [flat3_get es i 0 hi (by omega)]; rfl)
    have h3 := hc (i * 3 + 1) _ (by rw [flat3_get es i 1 hi (by omega)]; rfl)
    have h4 := hc (i * 3 + 2) _ (by rw [flat3_get es i 2 hi (by omega)]; rfl)
    rw [addr_add, Nat.zero_add] at h2 h3 h4
    exact ⟨h2, h3, h4⟩
theorem Row3.sl {w : World} {base : Nat} {v : Value} {es : List PEl} (h : Row3 w base v es) : ∃ a c, v = .slice a es.length c := by
  obtain ⟨a, c, hv, _⟩ := h.rd; exact ⟨a, c, hv⟩
theorem row3_empty (w : World) (base : Nat) (h : base ≤ w.heap.size) : Row3 (w.alloc (.cells #[] 129)) base (.slice (some ⟨w.heap.size, 0, none⟩) 0 0) [] :=
  World.ownsRow_made (base := base) (e := 129) (size := 3) w #[] 0 h (by decide) rfl
theorem rel_info : (Tryd.prog.info? 129).map (fun i => (i.size, i.bytes, (i.zero.map fun z => z.cells.size))) = some (3, 3, some 3) := by kernel_rfl
set_option maxRecDepth 100000 in
theorem ap3 {w0 : World} {x0 x1 x2 : Value} {e : PEl} (hce : rCells e = [x0, x1, x2]) {base : Nat} {v : Value} {es : List PEl} (hown : Row3 w0 base v es) (hlen : es.length ≤ 1000000000000) (hbase : base ≤ w0.heap.size)
    {ops : Array Oper} {rest : List Oper} {o : Oper} {a : Act} {Q : Exit → Act → World → Prop} (hgd : o.guard = none) (x y : Operand)
    (ho : o.op = .call { callee := .builtin .append, args := #[x, y], argTypes := #[94, 94] }) (hs : a.eval x = v) (hy : a.eval y = .slice (some ⟨w0.heap.size, 0, none⟩) 1 1)
    (h : ∀ v' w', Row3 w' base v' (es ++ [e]) → w0.grownBy w' v.ownBlock → wpList Tryd.prog ops Q rest (a.put o.dst v') w') :
    wpList Tryd.prog ops Q (o :: rest) a (w0.alloc (.cells #[x0, x1, x2] 129)) := by
  obtain ⟨i0, hi, hrest⟩ := Option.map_eq_some_iff.1 rel_info
  simp only [Prod.mk.injEq] at hrest
  obtain ⟨h8, hby, hz⟩ := hrest
  obtain ⟨z, hz, hzs⟩ := Option.map_eq_some_iff.1 hz
  refine wpList_append_own (P := Tryd.prog) _ hgd x y 94 ho base 129 i0 z 3 3 Tryd.underlying94 hi hz h8 hby hzs (by decide) v es.length _ hs (World.ownsRow.alloc hown _) ⟨w0.heap.size, 0, none⟩ 1 1
    (rCells e) hy rfl (fun j x hx => ?_) ?_ (by unfold maxLen; omega) (by omega) (by simp; omega) ?_
  · rw [addr_add, Nat.zero_add, blk_cell (heap_alloc_new w0 _) j]
    rw [← hx, hce]; simp
  · intro x hx
    simp only [rCells, List.mem_cons, List.not_mem_nil, or_false] at hx
    rcases hx with rfl | rfl | rfl <;> rfl
  · intro v' w' h1 h2 _
    refine h v' w' ?_ ?_
    · unfold Row3; rw [List.flatMap_append, List.length_append]; simpa using h1
    · exact ⟨h2.os, h2.tape, h2.output, Nat.le_trans (by simp) h2.size, fun k hk hne => (h2.block k (by simp; omega) hne).trans (Below.heap_alloc _ _ _ hk)⟩
theorem ap3s {w0 : World} {base : Nat} {v : Value} {es : List PEl} (hown : Row3 w0 base v es) (hlen : es.length ≤ 1000000000000) (hbase : base ≤ w0.heap.size)
    {ops : Array Oper} {rest : List Oper} {o : Oper} {a : Act} {Q : Exit → Act → World → Prop} (hgd : o.guard = none) (x y : Operand)
    (ho : o.op = .call { callee := .builtin .append, args := #[x, y], argTypes := #[94, 94] }) (hs : a.eval x = v) (hy : a.eval y = .slice (some ⟨w0.heap.size, 0, none⟩) 1 1)
    (h : ∀ v' w', Row3 w' base v' (es ++ [(2, 0)]) → w0.grownBy w' v.ownBlock → wpList Tryd.prog ops Q rest (a.put o.dst v') w') :
    wpList Tryd.prog ops Q (o :: rest) a (w0.alloc (.cells #[.bool true, .bool false, .int .u8 0] 129)) := ap3 (e := (2, 0)) rfl hown hlen hbase hgd x y ho hs hy h
theorem ap3g {w0 : World} {base : Nat} {v : Value} {es : List PEl} (hown : Row3 w0 base v es) (hlen : es.length ≤ 1000000000000) (hbase : base ≤ w0.heap.size)
    {ops : Array Oper} {rest : List Oper} {o : Oper} {a : Act} {Q : Exit → Act → World → Prop} (hgd : o.guard = none) (x y : Operand)
    (ho : o.op = .call { callee := .builtin .append, args := #[x, y], argTypes := #[94, 94] }) (hs : a.eval x = v) (hy : a.eval y = .slice (some ⟨w0.heap.size, 0, none⟩) 1 1)
    (h : ∀ v' w', Row3 w' base v' (es ++ [(1, 0)]) → w0.grownBy w' v.ownBlock → wpList Tryd.prog ops Q rest (a.put o.dst v') w') :
    wpList Tryd.prog ops Q (o :: rest) a (w0.alloc (.cells #[.bool false, .bool true, .int .u8 0] 129)) := ap3 (e := (1, 0)) rfl hown hlen hbase hgd x y ho hs hy h
theorem ap3c {w0 : World} {c : UInt8} {base : Nat} {v : Value} {es : List PEl} (hown : Row3 w0 base v es) (hlen : es.length ≤ 1000000000000) (hbase : base ≤ w0.heap.size)
    {ops : Array Oper} {rest : List Oper} {o : Oper} {a : Act} {Q : Exit → Act → World → Prop} (hgd : o.guard = none) (x y : Operand)
    (ho : o.op = .call { callee := .builtin .append, args := #[x, y], argTypes := #[94, 94] }) (hs : a.eval x = v) (hy : a.eval y = .slice (some ⟨w0.heap.size, 0, none⟩) 1 1)
    (h : ∀ v' w', Row3 w' base v' (es ++ [(0, c)]) → w0.grownBy w' v.ownBlock → wpList Tryd.prog ops Q rest (a.put o.dst v') w') :
    wpList Tryd.prog ops Q (o :: rest) a (w0.alloc (.cells #[.bool false, .bool false, .int .u8 (c.toNat : Nat)] 129)) := ap3 (e := (0, c)) rfl hown hlen hbase hgd x y ho hs hy h
theorem Row3.grown {w w' : World} {base : Nat} {v : Value} {es : List PEl} (h : Row3 w base v es) (hg : w.grownBy w' v.ownBlock) {w0 : World} (hb : Below base w0 w) (hB : w0.heap.size = base) : Below base w0 w' :=
  ⟨hg.os.trans hb.os, hg.tape.trans hb.tape, hg.output.trans hb.output, Nat.le_trans hb.size hg.size, fun k hk => (hg.block k (Nat.lt_of_lt_of_le (by omega) hb.size) (fun e => by have := (World.ownsRow.lt h k e.symm).1; omega)).trans (hb.block k hk)⟩

/-- What elements answers. -/
def RElsPost (w : World) (s : ByteArray) (e : Ending) (w' : World) : Prop :=
  (∀ es, elems s.data.toList = some es → ∃ v, e = .returned (.tuple #[v, .bool true]) ∧ Row3 w' w.heap.size v es ∧ Below w.heap.size w w') ∧
  (elems s.data.toList = none → (∃ v, e = .returned (.tuple #[v, .bool false])) ∧ Below w.heap.size w w')
set_option maxRecDepth 100000 in
set_option maxHeartbeats 1000000 in
theorem relements_any (w : World) (s : ByteArray) (hs : s.size ≤ 1000000000000) :
    Calls Tryd.prog 51 #[.string s] w (RElsPost w s) := by
  have hsl : s.size = s.data.toList.length := (Array.length_toList (xs := s.data)).symm
  have HSL := Lib.hid hsl
  clear hsl
  go_enter Tryd.func51, Tryd.ntmps51
  go_wp2
  go_loopw [4, 5] (fun s4 s5 wr => ∃ (i : Nat) (es : List PEl) (A : Option Addr) (C : Nat), s5 = .int .i64 i ∧ i ≤ s.size ∧ s4 = .slice A es.length C ∧ Row3 wr w.heap.size (.slice A es.length C) es ∧ es.length ≤ i ∧ elems s.data.toList = (elems (s.data.toList.drop i)).map (es ++ ·) ∧ Below w.heap.size w wr) (fun _ s5 _ => s.size - (intOf s5).toNat)
  case atStart => exact ⟨0, [], _, 0, rfl, Nat.zero_le _, rfl, row3_empty _ _ (Nat.le_refl _), Nat.le_refl _, by simp, (Below.refl _ _).alloc (Nat.le_refl _) _⟩
  case round =>
    obtain ⟨i, es, A, C, rfl, hi, rfl, hrow, hle, heq, hb⟩ := hrel
    have hsz := hb.size
    by_cases hlt : i < s.size
    · have hil : i < s.data.toList.length := by rw [← HSL.out]; exact hlt
      have hdrop : s.data.toList.drop i = s[i]'hlt :: s.data.toList.drop (i + 1) := List.drop_eq_getElem_cons hil
      have HEQ := Lib.hid heq
      have HDR := Lib.hid hdrop
      have HB := Lib.hid hb
      clear heq hdrop hb
      by_cases h1 : ((s[i]'hlt).toNat : Int) = 42
      · skip
        have hlen9 : es.length ≤ 1000000000000 := by omega
        have hnx := els_next HEQ.out (show elems (s.data.toList.drop i) = (elems (s.data.toList.drop (i + 1))).map (((2, 0) : PEl) :: ·) by rw [HDR.out, u8_of (n := 42) (by decide) h1]; exact elems_star _)
        have HNX := Lib.hid hnx
        clear hnx
        go_upto_region 8 with fail
        go_wp2_with (at_builtin; with_reducible refine ap3s hrow hlen9 hsz rfl _ _ rfl rfl rfl ?_)
        intro v4 w4 hr4 hg4
        have hb4 := hrow.grown hg4 HB.out rfl
        obtain ⟨A4, C4, rfl⟩ := hr4.sl
        have HR4 := Lib.hid hr4
        have HB4 := Lib.hid hb4
        clear hr4 hg4 hb4 hrow
        go_wp2
        go_roundw
        case rel => exact ⟨i + 1, es ++ [((2, 0) : PEl)], A4, C4, by go_num, by omega, rfl, HR4.out, by simp; omega, HNX.out, HB4.out⟩
        case measure => simp [intOf]; omega
      · by_cases h2 : ((s[i]'hlt).toNat : Int) = 63
        · skip
          have hlen9 : es.length ≤ 1000000000000 := by omega
          have hnx := els_next HEQ.out (show elems (s.data.toList.drop i) = (elems (s.data.toList.drop (i + 1))).map (((1, 0) : PEl) :: ·) by rw [HDR.out, u8_of (n := 63) (by decide) h2]; exact elems_gap _)
          have HNX := Lib.hid hnx
          clear hnx
          go_upto_region 10 with fail
          go_wp2_with (at_builtin; with_reducible refine ap3g hrow hlen9 hsz rfl _ _ rfl rfl rfl ?_)
          intro v4 w4 hr4 hg4
          have hb4 := hrow.grown hg4 HB.out rfl
          obtain ⟨A4, C4, rfl⟩ := hr4.sl
          have HR4 := Lib.hid hr4
          have HB4 := Lib.hid hb4
          clear hr4 hg4 hb4 hrow
          go_wp2
          go_roundw
          case rel => exact ⟨i + 1, es ++ [((1, 0) : PEl)], A4, C4, by go_num, by omega, rfl, HR4.out, by simp; omega, HNX.out, HB4.out⟩
          case measure => simp [intOf]; omega
        · by_cases h3 : ((s[i]'hlt).toNat : Int) = 92
          · by_cases hlt2 : i + 1 < s.size
            · have hil2 : i + 1 < s.data.toList.length := by rw [← HSL.out]; exact hlt2
              have hd2 : s.data.toList.drop (i + 1) = s[i + 1]'hlt2 :: s.data.toList.drop (i + 2) := List.drop_eq_getElem_cons hil2
              have HD2 := Lib.hid hd2
              clear hd2
              have hnx := els_next HEQ.out (show elems (s.data.toList.drop i) = (elems (s.data.toList.drop (i + 2))).map (((0, s[i + 1]'hlt2) : PEl) :: ·) by rw [HDR.out, HD2.out, u8_of (n := 92) (by decide) h3]; exact elems_esc _ _)
              have HNX := Lib.hid hnx
              have hlen9 : es.length ≤ 1000000000000 := by omega
              clear hnx
              go_upto_region 15 with fail
              go_wp2_with (at_builtin; with_reducible refine ap3c hrow hlen9 hsz rfl _ _ rfl rfl rfl ?_)
              intro v4 w4 hr4 hg4
              have hb4 := hrow.grown hg4 HB.out rfl
              obtain ⟨A4, C4, rfl⟩ := hr4.sl
              have HR4 := Lib.hid hr4
              have HB4 := Lib.hid hb4
              clear hr4 hg4 hb4 hrow
              go_wp2
              go_roundw
              case rel => exact ⟨i + 2, es ++ [((0, s[i + 1]'hlt2) : PEl)], A4, C4, by go_num, by omega, rfl, HR4.out, by simp; omega, HNX.out, HB4.out⟩
              case measure => simp [intOf]; omega
            · have hnone : elems s.data.toList = none := by
                have h5 : s.data.toList.drop (i + 1) = [] := List.drop_eq_nil_of_le (by rw [← HSL.out]; omega)
                rw [HEQ.out, HDR.out, h5, u8_of (n := 92) (by decide) h3]; rfl
              have HNN := Lib.hid hnone
              have h6 : (i : Int) + 1 = s.size := by omega
              clear hnone
              go_wp2
              go_ret2
              exact ⟨fun es h => absurd (HNN.out.symm.trans h) (by simp), fun _ => ⟨⟨_, rfl⟩, HB.out⟩⟩
          · have hne1 := Lib.hid (u8_ne (n := 42) (by decide) h1)
            have hne2 := Lib.hid (u8_ne (n := 63) (by decide) h2)
            have hne3 := Lib.hid (u8_ne (n := 92) (by decide) h3)
            have hlen9 : es.length ≤ 1000000000000 := by omega
            have hnx := els_next HEQ.out (show elems (s.data.toList.drop i) = (elems (s.data.toList.drop (i + 1))).map (((0, s[i]'hlt) : PEl) :: ·) by rw [HDR.out]; exact elems_let _ hne1.out hne2.out hne3.out)
            have HNX := Lib.hid hnx
            clear hnx
            go_upto_region 6 with fail
            go_wp2_with (at_builtin; with_reducible refine ap3c hrow hlen9 hsz rfl _ _ rfl rfl rfl ?_)
            intro v4 w4 hr4 hg4
            have hb4 := hrow.grown hg4 HB.out rfl
            obtain ⟨A4, C4, rfl⟩ := hr4.sl
            have HR4 := Lib.hid hr4
            have HB4 := Lib.hid hb4
            clear hr4 hg4 hb4 hrow
            go_wp2
            go_roundw
            case rel => exact ⟨i + 1, es ++ [((0, s[i]'hlt) : PEl)], A4, C4, by go_num, by omega, rfl, HR4.out, by simp; omega, HNX.out, HB4.out⟩
            case measure => simp [intOf]; omega
    · obtain rfl : i = s.size := by omega
      have hall : elems s.data.toList = some es := by
        rw [heq, List.drop_eq_nil_of_le (by rw [← HSL.out]; exact Nat.le_refl _)]; simp [elems]
      have HA := Lib.hid hall
      clear hall heq
      go_wp2
      go_ret2
      exact ⟨fun es' h => by
        have : es = es' := Option.some.inj (HA.out.symm.trans h)
        subst this
        exact ⟨_, rfl, hrow, hb⟩, fun h => absurd (HA.out.symm.trans h) (by simp)⟩
set_option maxRecDepth 100000 in
theorem good_any (w : World) (s : ByteArray) (hs : s.size ≤ 1000000000000) :
    Calls Tryd.prog 24 #[.string s] w fun e w' => e = .returned (.bool (elems s.data.toList).isSome) ∧ Below w.heap.size w w' := by
  have C0 := elements_any w s hs
  cases hes : elems s.data.toList with
  | none =>
    have HES := Lib.hid hes
    clear hes
    go_enter Tryd.func24, Tryd.ntmps24
    go_wp2_with fail
    refine C0.mono ?_
    rintro e w1 ⟨_, h2⟩
    obtain ⟨rfl, hb1⟩ := h2 HES.out
    clear C0 h2
    go_wp2
    go_ret
    exact ⟨rfl, hb1⟩
  | some es =>
    have HES := Lib.hid hes
    clear hes
    go_enter Tryd.func24, Tryd.ntmps24
    go_wp2_with fail
    refine C0.mono ?_
    rintro e w1 ⟨h1, _⟩
    obtain ⟨v, rfl, hrow, hb1⟩ := h1 es HES.out
    obtain ⟨a, c, rfl⟩ := hrow.sl
    clear C0 h1 hrow
    go_wp2
    go_ret
    exact ⟨rfl, hb1⟩
set_option maxRecDepth 100000 in
theorem rgood_any (w : World) (s : ByteArray) (hs : s.size ≤ 1000000000000) :
    Calls Tryd.prog 25 #[.string s] w fun e w' => e = .returned (.bool (elems s.data.toList).isSome) ∧ Below w.heap.size w w' := by
  have C0 := relements_any w s hs
  cases hes : elems s.data.toList with
  | none =>
    have HES := Lib.hid hes
    clear hes
    go_enter Tryd.func25, Tryd.ntmps25
    go_wp2_with fail
    refine C0.mono ?_
    rintro e w1 ⟨_, h2⟩
    obtain ⟨⟨v, rfl⟩, hb1⟩ := h2 HES.out
    clear C0 h2
    go_wp2
    go_ret
    exact ⟨rfl, hb1⟩
  | some es =>
    have HES := Lib.hid hes
    clear hes
    go_enter Tryd.func25, Tryd.ntmps25
    go_wp2_with fail
    refine C0.mono ?_
    rintro e w1 ⟨h1, _⟩
    obtain ⟨v, rfl, hrow, hb1⟩ := h1 es HES.out
    obtain ⟨a, c, rfl⟩ := hrow.sl
    clear C0 h1 hrow
    go_wp2
    go_ret
    exact ⟨rfl, hb1⟩
end Go.Proofs.YtejmjjgbbojfbaaDoor
