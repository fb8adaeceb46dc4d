/- made: the automaton of an Of, and whether the document agrees. -/
import Derived.Test.YtejmjjgbbojfbaaDoorZRefE
import Derived.Test.YtejmjjgbbojfbaaDoorZG16
import Derived.Test.YtejmjjgbbojfbaaDoorZG14
import Derived.Test.YtejmjjgbbojfbaaDoorZG17
namespace Go.Proofs.YtejmjjgbbojfbaaDoor
set_option linter.unusedVariables false
open Go.ChangeShapes Go.WideShapes Go.ChangeAt Go.RowKit

/-- What an automaton is made of. -/
structure OfV where
  k : Int
  s : ByteArray
  n : Int
  lop : Bool
  lin : Bool
  ls : ByteArray
  hop : Bool
  hin : Bool
  hs : ByteArray
def OfV.cells (o : OfV) : List Value := [.int .i64 o.k, .string o.s, .int .i64 o.n, .bool o.lop, .bool o.lin, .string o.ls, .bool o.hop, .bool o.hin, .string o.hs]
/-- Its number of the document: 0 if there is an automaton. -/
def OfV.bad (o : OfV) : Nat := if o.k = 3 ∧ elems o.s.data.toList = none then 14 else if o.k = 4 ∧ (o.n < 0 ∨ 2 < o.n) then 8 else 0
/-- The automaton at p, kind by kind. -/
def AutoAt (w : World) (p : Nat) (o : OfV) : Prop :=
  p < w.heap.size ∧ (o.k = 3 → ∃ es, elems o.s.data.toList = some es ∧ IsAuto w p (wildM es)) ∧ (o.k = 4 → IsAuto w p (fuzzM o.s.data.toList o.n.toNat)) ∧
  (o.k = 2 → w.cell? ⟨p, 0, none⟩ = some (.iface 102 (.agg #[.string o.s]))) ∧
  (o.k = 5 → w.cell? ⟨p, 0, none⟩ = some (.iface 100 (.agg #[.bool o.lop, .bool o.lin, .string o.ls, .bool o.hop, .bool o.hin, .string o.hs]))) ∧
  (o.k ≠ 2 → o.k ≠ 3 → o.k ≠ 4 → o.k ≠ 5 → w.cell? ⟨p, 0, none⟩ = some (.iface 98 (.agg #[.string o.s])))
theorem AutoAt.below {w w' : World} {p : Nat} {o : OfV} (h : AutoAt w p o) (hb : Below w.heap.size w w') : AutoAt w' p o :=
  ⟨Nat.lt_of_lt_of_le h.1 hb.size, fun e => by obtain ⟨es, h1, h2⟩ := h.2.1 e; exact ⟨es, h1, h2.below hb⟩, fun e => (h.2.2.1 e).below hb,
    fun e => by rw [hb.cell h.1]; exact h.2.2.2.1 e, fun e => by rw [hb.cell h.1]; exact h.2.2.2.2.1 e, fun e1 e2 e3 e4 => by rw [hb.cell h.1]; exact h.2.2.2.2.2 e1 e2 e3 e4⟩

set_option maxRecDepth 100000 in
theorem exact_any (w : World) (s : ByteArray) : Calls Tryd.prog 28 #[.string s] w fun e w' => e = .returned (.pointer (some ⟨w.heap.size, 0, none⟩)) ∧ w' = w.alloc (.cells #[.iface 98 (.agg #[.string s])] 83) := by
  go_enter Tryd.func28, Tryd.ntmps28
  go_wp2
  go_ret
  exact ⟨rfl, rfl⟩
set_option maxRecDepth 100000 in
theorem prefix_any (w : World) (s : ByteArray) : Calls Tryd.prog 31 #[.string s] w fun e w' => e = .returned (.pointer (some ⟨w.heap.size, 0, none⟩)) ∧ w' = w.alloc (.cells #[.iface 102 (.agg #[.string s])] 83) := by
  go_enter Tryd.func31, Tryd.ntmps31
  go_wp2
  go_ret
  exact ⟨rfl, rfl⟩
set_option maxRecDepth 100000 in
theorem span_any (w : World) (a b : Bool) (s : ByteArray) (c d : Bool) (t : ByteArray) : Calls Tryd.prog 29 #[.agg #[.bool a, .bool b, .string s], .agg #[.bool c, .bool d, .string t]] w fun e w' => e = .returned (.pointer (some ⟨w.heap.size + 2, 0, none⟩)) ∧ w' = ((w.alloc (.cells #[.bool a, .bool b, .string s] 35)).alloc (.cells #[.bool c, .bool d, .string t] 35)).alloc (.cells #[.iface 100 (.agg #[.bool a, .bool b, .string s, .bool c, .bool d, .string t])] 83) := by
  go_enter Tryd.func29, Tryd.ntmps29
  go_wp2
  go_ret
  exact ⟨rfl, rfl⟩
/-- What make1 answers. -/
def MkPost (w : World) (o : OfV) (EA : Nat → Addr) (e : Ending) (w' : World) : Prop :=
  (o.bad = 0 → ∃ p, e = .returned (.tuple #[.pointer (some ⟨p, 0, none⟩), .nilIface]) ∧ w.heap.size ≤ p ∧ AutoAt w' p o ∧ Below w.heap.size w w') ∧
  (o.bad ≠ 0 → e = .returned (.tuple #[.pointer none, errV EA o.bad]) ∧ Below w.heap.size w w')
set_option maxRecDepth 100000 in
set_option maxHeartbeats 2000000 in
theorem make1_any (w : World) (o : OfV) (hs : o.s.size ≤ 1000000000) (EA : Nat → Addr) (hE : Sent w EA) :
    Calls Tryd.prog 44 #[.agg o.cells.toArray] w (MkPost w o EA) := by
  obtain ⟨k, s, n, lop, lin, ls, hop, hin, hs'⟩ := o
  show Calls Tryd.prog 44 #[.agg #[.int .i64 k, .string s, .int .i64 n, .bool lop, .bool lin, .string ls, .bool hop, .bool hin, .string hs']] w _
  obtain ⟨ob, hob⟩ : ∃ ob, ob = Obj.cells #[.int .i64 k, .string s, .int .i64 n, .bool lop, .bool lin, .string ls, .bool hop, .bool hin, .string hs'] 37 := ⟨_, rfl⟩
  have hb0 : Below w.heap.size w (w.alloc ob) := (Below.refl _ _).alloc (Nat.le_refl _) _
  have hE0 := hE.below hb0
  have hz0 : (w.alloc ob).heap.size = w.heap.size + 1 := by simp
  have HB0 := Lib.hid hb0
  have HZ0 := Lib.hid hz0
  have hcn : ∀ (W : World) (c : Value), (W.alloc (.cells #[c] 83)).cell? ⟨W.heap.size, 0, none⟩ = some c := fun W c => blk_cell (heap_alloc_new W _) 0
  have HCN := Lib.hid hcn
  have hsz : s.size ≤ 1000000000 := hs
  have hal : ∀ (W : World) (x : Obj), Below w.heap.size w W → Below w.heap.size w (W.alloc x) := fun W x h => h.alloc h.size x
  have HAL := Lib.hid hal
  clear hb0 hz0 hs hcn hal
  by_cases h3 : k = 3
  · subst h3
    have C1 := wild_any (w.alloc ob) s hsz _ hE0.c14
    have HOB := Lib.hid hob
    rw [hob] at C1
    clear hE hE0 hob
    cases hes : elems s.data.toList with
    | none =>
      have HES := Lib.hid hes
      clear hes
      go_enter Tryd.func44, Tryd.ntmps44
      go_wp2_with fail
      refine C1.mono ?_
      rintro e w1 ⟨_, h2⟩
      obtain ⟨rfl, hb1⟩ := h2 HES.out
      rw [← HOB.out] at hb1
      have HB := Lib.hid (HB0.out.trans (hb1.mono (by rw [HZ0.out]; omega)))
      clear C1 h2 hb1
      unfold errV
      go_wp2
      go_ret2
      have hbad : OfV.bad ⟨3, s, n, lop, lin, ls, hop, hin, hs'⟩ = 14 := by unfold OfV.bad; rw [if_pos ⟨rfl, HES.out⟩]
      exact ⟨fun h => (by rw [hbad] at h; cases h), fun _ => ⟨by rw [hbad]; rfl, HB.out⟩⟩
    | some es =>
      have HES := Lib.hid hes
      clear hes
      go_enter Tryd.func44, Tryd.ntmps44
      go_wp2_with fail
      refine C1.mono ?_
      rintro e w1 ⟨h1, _⟩
      obtain ⟨p, rfl, hp, ha, hb1⟩ := h1 es HES.out
      rw [← HOB.out] at hb1 hp
      have HB := Lib.hid (HB0.out.trans (hb1.mono (by rw [HZ0.out]; omega)))
      have HA := Lib.hid ha
      rw [HZ0.out] at hp
      clear C1 h1 hb1 ha
      go_wp2
      go_ret2
      have hbad : OfV.bad ⟨3, s, n, lop, lin, ls, hop, hin, hs'⟩ = 0 := by unfold OfV.bad; rw [if_neg (fun h => absurd (HES.out.symm.trans h.2) (by simp)), if_neg (fun h => absurd h.1 (by show ¬ (3 : Int) = 4; decide))]
      exact ⟨fun _ => ⟨p, rfl, by omega, ⟨HA.out.1, fun _ => ⟨es, HES.out, HA.out⟩, fun h => absurd h (by show ¬ (3 : Int) = 4; decide), fun h => absurd h (by show ¬ (3 : Int) = 2; decide), fun h => absurd h (by show ¬ (3 : Int) = 5; decide), fun _ h => absurd rfl h⟩, HB.out⟩, fun h => absurd hbad h⟩
  by_cases h4 : k = 4
  · subst h4
    by_cases hn : n < 0 ∨ 2 < n
    · have C1 := fuzzy_err (w.alloc ob) s n hn _ hE0.c8
      have HOB := Lib.hid hob
      have HN := Lib.hid hn
      rw [hob] at C1
      clear hE hE0 hob hn
      go_enter Tryd.func44, Tryd.ntmps44
      go_wp2_with fail
      refine C1.mono ?_
      rintro e w1 ⟨rfl, hb1⟩
      rw [← HOB.out] at hb1
      have HB := Lib.hid (HB0.out.trans (hb1.mono (by rw [HZ0.out]; omega)))
      clear C1 hb1
      unfold errV
      go_wp2
      go_ret2
      have hbad : OfV.bad ⟨4, s, n, lop, lin, ls, hop, hin, hs'⟩ = 8 := by unfold OfV.bad; rw [if_neg (fun h => absurd h.1 (by show ¬ (4 : Int) = 3; decide)), if_pos ⟨rfl, HN.out⟩]
      exact ⟨fun h => (by rw [hbad] at h; cases h), fun _ => ⟨by rw [hbad]; rfl, HB.out⟩⟩
    · obtain ⟨m, rfl⟩ : ∃ m : Nat, n = m := ⟨n.toNat, by omega⟩
      have C1 := fuzzy_ok (w.alloc ob) s m hsz (by omega)
      have HOB := Lib.hid hob
      have HN := Lib.hid hn
      rw [hob] at C1
      clear hE hE0 hob hn
      go_enter Tryd.func44, Tryd.ntmps44
      go_wp2_with fail
      refine C1.mono ?_
      rintro e w1 ⟨p, rfl, hp, ha, hb1⟩
      rw [← HOB.out] at hb1 hp
      have HB := Lib.hid (HB0.out.trans (hb1.mono (by rw [HZ0.out]; omega)))
      have HA := Lib.hid ha
      rw [HZ0.out] at hp
      clear C1 hb1 ha
      go_wp2
      go_ret2
      have hbad : OfV.bad ⟨4, s, (m : Int), lop, lin, ls, hop, hin, hs'⟩ = 0 := by unfold OfV.bad; rw [if_neg (fun h => absurd h.1 (by show ¬ (4 : Int) = 3; decide)), if_neg (fun h => HN.out h.2)]
      exact ⟨fun _ => ⟨p, rfl, by omega, ⟨HA.out.1, fun h => absurd h (by show ¬ (4 : Int) = 3; decide), fun _ => HA.out, fun h => absurd h (by show ¬ (4 : Int) = 2; decide), fun h => absurd h (by show ¬ (4 : Int) = 5; decide), fun _ _ h => absurd rfl h⟩, HB.out⟩, fun h => absurd hbad h⟩
  have hbad : OfV.bad ⟨k, s, n, lop, lin, ls, hop, hin, hs'⟩ = 0 := by unfold OfV.bad; rw [if_neg (fun h => h3 h.1), if_neg (fun h => h4 h.1)]
  have HBAD := Lib.hid hbad
  have H3 := Lib.hid h3
  have H4 := Lib.hid h4
  clear hbad hE hE0
  by_cases h2 : k = 2
  · subst h2
    have C1 := prefix_any (w.alloc ob) s
    have HOB := Lib.hid hob
    rw [hob] at C1
    clear hob h3 h4
    go_enter Tryd.func44, Tryd.ntmps44
    go_wp2_with fail
    refine C1.mono ?_
    rintro e w1 ⟨rfl, hw1⟩
    rw [← HOB.out] at hw1
    have HA := Lib.hid (show AutoAt w1 (w.alloc ob).heap.size ⟨2, s, n, lop, lin, ls, hop, hin, hs'⟩ from by
      rw [hw1]
      exact ⟨by simp, fun h => absurd h (by show ¬ (2 : Int) = 3; decide), fun h => absurd h (by show ¬ (2 : Int) = 4; decide), fun _ => HCN.out _ _, fun h => absurd h (by show ¬ (2 : Int) = 5; decide), fun h => absurd rfl h⟩)
    have HB := Lib.hid (show Below w.heap.size w w1 from by rw [hw1]; exact HAL.out _ _ HB0.out)
    have HP := Lib.hid (show w.heap.size ≤ (w.alloc ob).heap.size from by rw [HZ0.out]; omega)
    rw [HZ0.out] at HA HP
    clear C1 hw1
    go_wp2
    go_ret2
    exact ⟨fun _ => ⟨_, rfl, HP.out, HA.out, HB.out⟩, fun h => absurd HBAD.out h⟩
  by_cases h5 : k = 5
  · subst h5
    have C1 := span_any (w.alloc ob) lop lin ls hop hin hs'
    have HOB := Lib.hid hob
    rw [hob] at C1
    clear hob h3 h4 h2
    go_enter Tryd.func44, Tryd.ntmps44
    go_wp2_with fail
    refine C1.mono ?_
    rintro e w1 ⟨rfl, hw1⟩
    rw [← HOB.out] at hw1
    have HA := Lib.hid (show AutoAt w1 ((w.alloc ob).heap.size + 2) ⟨5, s, n, lop, lin, ls, hop, hin, hs'⟩ from by
      have hq := HCN.out (((w.alloc ob).alloc (.cells #[.bool lop, .bool lin, .string ls] 35)).alloc (.cells #[.bool hop, .bool hin, .string hs'] 35)) (.iface 100 (.agg #[.bool lop, .bool lin, .string ls, .bool hop, .bool hin, .string hs']))
      rw [show (((w.alloc ob).alloc (.cells #[.bool lop, .bool lin, .string ls] 35)).alloc (.cells #[.bool hop, .bool hin, .string hs'] 35)).heap.size = (w.alloc ob).heap.size + 2 by simp] at hq
      rw [hw1]
      exact ⟨by simp, fun h => absurd h (by show ¬ (5 : Int) = 3; decide), fun h => absurd h (by show ¬ (5 : Int) = 4; decide), fun h => absurd h (by show ¬ (5 : Int) = 2; decide), fun _ => hq, fun _ _ _ h => absurd rfl h⟩)
    have HB := Lib.hid (show Below w.heap.size w w1 from by rw [hw1]; exact HAL.out _ _ (HAL.out _ _ (HAL.out _ _ HB0.out)))
    have HP := Lib.hid (show w.heap.size ≤ (w.alloc ob).heap.size + 2 from by rw [HZ0.out]; omega)
    rw [HZ0.out] at HA HP
    clear C1 hw1
    go_wp2
    go_ret2
    exact ⟨fun _ => ⟨_, rfl, HP.out, HA.out, HB.out⟩, fun h => absurd HBAD.out h⟩
  have C1 := exact_any (w.alloc ob) s
  have HOB := Lib.hid hob
  have H2 := Lib.hid h2
  have H5 := Lib.hid h5
  rw [hob] at C1
  clear hob
  go_enter Tryd.func44, Tryd.ntmps44
  go_wp2_with fail
  refine C1.mono ?_
  rintro e w1 ⟨rfl, hw1⟩
  rw [← HOB.out] at hw1
  have HA := Lib.hid (show AutoAt w1 (w.alloc ob).heap.size ⟨k, s, n, lop, lin, ls, hop, hin, hs'⟩ from by
    rw [hw1]
    exact ⟨by simp, fun h => absurd h H3.out, fun h => absurd h H4.out, fun h => absurd h H2.out, fun h => absurd h H5.out, fun _ _ _ _ => HCN.out _ _⟩)
  have HB := Lib.hid (show Below w.heap.size w w1 from by rw [hw1]; exact HAL.out _ _ HB0.out)
  have HP := Lib.hid (show w.heap.size ≤ (w.alloc ob).heap.size from by rw [HZ0.out]; omega)
  rw [HZ0.out] at HA HP
  clear C1 hw1
  go_wp2
  go_ret2
  exact ⟨fun _ => ⟨_, rfl, HP.out, HA.out, HB.out⟩, fun h => absurd HBAD.out h⟩
/-- Its number of the document, as Make tells it. -/
def rCellsOf (o : OfV) : List Value := if o.k < 2 ∨ 5 < o.k then [.int .i64 1, .string o.s, .int .i64 0, .bool false, .bool false, .string ⟨#[]⟩, .bool false, .bool false, .string ⟨#[]⟩] else o.cells
set_option maxRecDepth 100000 in
set_option maxHeartbeats 1000000 in
theorem told_any (w : World) (o : OfV) :
    Calls Tryd.prog 18 #[.agg o.cells.toArray] w fun e w' => e = .returned (.agg (rCellsOf o).toArray) ∧ Below w.heap.size w w' := by
  obtain ⟨k, s, n, lop, lin, ls, hop, hin, hs'⟩ := o
  show Calls Tryd.prog 18 #[.agg #[.int .i64 k, .string s, .int .i64 n, .bool lop, .bool lin, .string ls, .bool hop, .bool hin, .string hs']] w _
  have hal : ∀ (x y : Obj), Below w.heap.size w ((w.alloc x).alloc y) := fun x y => ((Below.refl _ _).alloc (Nat.le_refl _) _).alloc (by simp) _
  have HAL := Lib.hid hal
  clear hal
  by_cases h1 : k < 2
  · have hc : rCellsOf ⟨k, s, n, lop, lin, ls, hop, hin, hs'⟩ = [.int .i64 1, .string s, .int .i64 0, .bool false, .bool false, .string ⟨#[]⟩, .bool false, .bool false, .string ⟨#[]⟩] := by unfold rCellsOf; rw [if_pos (.inl h1)]
    rw [hc]
    clear hc
    go_enter Tryd.func18, Tryd.ntmps18
    go_wp2
    go_returns
    exact ⟨rfl, HAL.out _ _⟩
  · by_cases h2 : 5 < k
    · have hc : rCellsOf ⟨k, s, n, lop, lin, ls, hop, hin, hs'⟩ = [.int .i64 1, .string s, .int .i64 0, .bool false, .bool false, .string ⟨#[]⟩, .bool false, .bool false, .string ⟨#[]⟩] := by unfold rCellsOf; rw [if_pos (.inr h2)]
      rw [hc]
      clear hc
      go_enter Tryd.func18, Tryd.ntmps18
      go_wp2
      go_returns
      exact ⟨rfl, HAL.out _ _⟩
    · have hc : rCellsOf ⟨k, s, n, lop, lin, ls, hop, hin, hs'⟩ = [.int .i64 k, .string s, .int .i64 n, .bool lop, .bool lin, .string ls, .bool hop, .bool hin, .string hs'] := by unfold rCellsOf; rw [if_neg (by rintro (h | h); exact h1 h; exact h2 h)]; rfl
      rw [hc]
      clear hc
      go_enter Tryd.func18, Tryd.ntmps18
      go_wp2
      go_returns
      exact ⟨rfl, HAL.out _ _⟩
set_option maxRecDepth 100000 in
set_option maxHeartbeats 1000000 in
theorem rmake_any (w : World) (k n : Int) (s : ByteArray) (lop lin hop hin : Bool) (ls hs' : ByteArray) (hs : s.size ≤ 1000000000) :
    Calls Tryd.prog 45 #[.agg #[.int .i64 k, .string s, .int .i64 n, .bool lop, .bool lin, .string ls, .bool hop, .bool hin, .string hs']] w fun e w' => e = .returned (.int .i64 (OfV.bad ⟨k, s, n, lop, lin, ls, hop, hin, hs'⟩ : Nat)) ∧ Below w.heap.size w w' := by
  obtain ⟨ob, hob⟩ : ∃ ob, ob = Obj.cells #[.int .i64 k, .string s, .int .i64 n, .bool lop, .bool lin, .string ls, .bool hop, .bool hin, .string hs'] 41 := ⟨_, rfl⟩
  have hb0 : Below w.heap.size w (w.alloc ob) := (Below.refl _ _).alloc (Nat.le_refl _) _
  have hz0 : (w.alloc ob).heap.size = w.heap.size + 1 := by simp
  have hn0 := heap_alloc_new w ob
  by_cases h3 : k = 3
  · subst h3
    have C1 := rgood_any (w.alloc ob) s (by omega)
    have HOB := Lib.hid hob
    have HB0 := Lib.hid hb0
    have HZ0 := Lib.hid hz0
    have HN0 := Lib.hid hn0
    rw [hob] at C1
    clear hob hb0 hz0 hn0
    cases hes : elems s.data.toList with
    | none =>
      have hbad : OfV.bad ⟨3, s, n, lop, lin, ls, hop, hin, hs'⟩ = 14 := by unfold OfV.bad; rw [if_pos ⟨rfl, hes⟩]
      rw [hes] at C1
      rw [hbad]
      clear hbad hes
      go_enter Tryd.func45, Tryd.ntmps45
      go_wp2_with fail
      refine C1.mono ?_
      rintro e w1 ⟨rfl, hb1⟩
      rw [← HOB.out] at hb1
      have HB := Lib.hid (HB0.out.trans (hb1.mono (by rw [HZ0.out]; omega)))
      clear C1 hb1
      go_wp2
      go_ret
      exact ⟨rfl, HB.out⟩
    | some es =>
      have hbad : OfV.bad ⟨3, s, n, lop, lin, ls, hop, hin, hs'⟩ = 0 := by unfold OfV.bad; rw [if_neg (fun h => absurd (hes.symm.trans h.2) (by simp)), if_neg (fun h => absurd h.1 (by show ¬ (3 : Int) = 4; decide))]
      rw [hes] at C1
      rw [hbad]
      clear hbad hes
      go_enter Tryd.func45, Tryd.ntmps45
      go_wp2_with fail
      refine C1.mono ?_
      rintro e w1 ⟨rfl, hb1⟩
      rw [← HOB.out] at hb1
      have HB := Lib.hid (HB0.out.trans (hb1.mono (by rw [HZ0.out]; omega)))
      have hbx : w1.heap[w.heap.size]? = some ob := (hb1.block _ (by rw [HZ0.out]; omega)).trans HN0.out
      rw [HOB.out] at hbx
      have c0 := blk_cell hbx 0
      simp only [List.getElem?_toArray] at c0
      have c0' : w1.cell? ⟨w.heap.size, 0, none⟩ = some (.int .i64 3) := blk_cell hbx 0
      clear C1 hb1 hbx c0
      go_wp2
      go_ret
      exact ⟨rfl, HB.out⟩
  · have HB := Lib.hid (fun (o : Obj) => (Below.refl w.heap.size w).alloc (Nat.le_refl _) o)
    have t3 : (k == 3) = false := by simpa using h3
    clear hob hb0 hz0 hn0
    by_cases h4 : k = 4
    · subst h4
      by_cases hn : n < 0 ∨ 2 < n
      · have hbad : OfV.bad ⟨4, s, n, lop, lin, ls, hop, hin, hs'⟩ = 8 := by unfold OfV.bad; rw [if_neg (fun h => h3 h.1), if_pos ⟨rfl, hn⟩]
        rw [hbad]
        clear hbad
        by_cases hn0 : n < 0
        · clear hn
          go_enter Tryd.func45, Tryd.ntmps45
          go_wp2
          go_ret
          exact ⟨rfl, HB.out _⟩
        · have hn2 : 2 < n := by omega
          clear hn
          go_enter Tryd.func45, Tryd.ntmps45
          go_wp2
          go_ret
          exact ⟨rfl, HB.out _⟩
      · have hbad : OfV.bad ⟨4, s, n, lop, lin, ls, hop, hin, hs'⟩ = 0 := by unfold OfV.bad; rw [if_neg (fun h => h3 h.1), if_neg (fun h => hn h.2)]
        rw [hbad]
        have g1 : decide (n < 0) = false := decide_eq_false (by omega)
        have g2 : decide (2 < n) = false := decide_eq_false (by omega)
        clear hbad hn
        go_enter Tryd.func45, Tryd.ntmps45
        go_wp2
        go_ret
        exact ⟨rfl, HB.out _⟩
    · have hbad : OfV.bad ⟨k, s, n, lop, lin, ls, hop, hin, hs'⟩ = 0 := by unfold OfV.bad; rw [if_neg (fun h => h3 h.1), if_neg (fun h => h4 h.1)]
      rw [hbad]
      have t4 : (k == 4) = false := by simpa using h4
      clear hbad
      go_enter Tryd.func45, Tryd.ntmps45
      go_wp2
      go_ret
      exact ⟨rfl, HB.out _⟩
end Go.Proofs.YtejmjjgbbojfbaaDoor
