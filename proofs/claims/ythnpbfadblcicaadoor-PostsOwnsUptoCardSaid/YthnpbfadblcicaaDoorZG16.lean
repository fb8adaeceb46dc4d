/- Merged: BlkA, ApP1. -/
import Derived.Test.YthnpbfadblcicaaDoorZPOpen
/- posts: what an opened List's blocks are; lists of postings put one behind the other. -/
namespace Go.Proofs.YthnpbfadblcicaaDoor
set_option linter.unusedVariables false
open Go.ChangeShapes Go.WideShapes Go.ChangeAt Go.RowKit

/-- The document ahead of block k of entries that stand behind base. -/
def bAt (base : Int) (S : List SkV) (k : Nat) : Int := ((S.take k).map SkV.last).getLastD base
theorem bAt_succ (base : Int) (s : SkV) (r : List SkV) (k : Nat) : bAt base (s :: r) (k + 1) = bAt s.last r k := by
  unfold bAt
  rw [List.take_succ_cons, List.map_cons]
  cases (r.take k).map SkV.last <;> simp [List.getLastD]
theorem blkV_at {b : List UInt8} : ∀ (S : List SkV) (base : Int) (cs : List (List PostV)), -1 ≤ base → base < 2147483647 → (∀ s ∈ S, 1 ≤ s.docs) → blkV b base S = some cs → cs.length = S.length ∧
    ∀ (k : Nat) (h : k < S.length) (h2 : k < cs.length), unpV (bAt base S k) S[k].docs ((b.drop S[k].at_).take S[k].size) = some cs[k] ∧ -1 ≤ bAt base S k ∧ bAt base S k < 2147483647 ∧ S[k].last = lastV (bAt base S k) cs[k]
  | [], base, cs, hb, hb2, hd, h => by
    rw [blkV] at h; injection h with h; subst h
    exact ⟨rfl, fun k h => by simp at h⟩
  | s :: r, base, cs, hb, hb2, hd, h => by
    rw [blkV] at h
    cases hu : unpV base s.docs ((b.drop s.at_).take s.size) with
    | none => rw [hu] at h; cases h
    | some ps =>
      rw [hu] at h
      simp only at h
      split at h
      · cases h
      · next hla =>
        have hla := Decidable.not_not.1 hla
        cases hr : blkV b s.last r with
        | none => rw [hr] at h; cases h
        | some q =>
          rw [hr] at h
          injection h with h
          subst h
          obtain ⟨u1, u2, u3, u4⟩ := unpV_form hb hu
          have hne : ps ≠ [] := fun e => by rw [e] at u3; have := hd s (List.mem_cons_self ..); simp at u3; omega
          have hlv := (okV_last u1).2 hne
          rw [hla] at hlv
          obtain ⟨i1, i2⟩ := blkV_at r s.last q (by omega) (by omega) (fun x hx => hd x (List.mem_cons_of_mem _ hx)) hr
          refine ⟨by rw [List.length_cons, i1, List.length_cons], fun k h1 h2 => ?_⟩
          cases k with
          | zero => exact ⟨hu, hb, hb2, hla.symm⟩
          | succ k =>
            rw [bAt_succ]
            exact i2 k (by simpa using h1) (by simpa using h2)
theorem putAt_get : ∀ (R : List SkV) (q k : Nat) (h : k < (putAt q R).length) (h2 : k < R.length), (putAt q R)[k] = ⟨R[k].last, R[k].docs, q + sizesV (R.take k), R[k].size⟩
  | [], q, k, h, h2 => by simp at h2
  | s :: r, q, 0, h, h2 => by simp [putAt, sizesV]
  | s :: r, q, k + 1, h, h2 => by
    have ih := putAt_get r (q + s.size) k (by rw [putAt] at h; simpa using h) (by simpa using h2)
    simp only [putAt, List.getElem_cons_succ, List.take_succ_cons]
    rw [ih]
    congr 1
    unfold sizesV
    rw [List.map_cons, List.sum_cons]; omega
theorem sizes_at (R : List SkV) (k : Nat) (h : k < R.length) : sizesV (R.take k) + R[k].size ≤ sizesV R := by
  have h1 : sizesV R = sizesV (R.take k) + sizesV (R.drop k) := by
    unfold sizesV
    rw [← List.sum_append, ← List.map_append, List.take_append_drop]
  rw [h1, List.drop_eq_getElem_cons h]
  unfold sizesV
  rw [List.map_cons, List.sum_cons]; omega
/-- All that is known of an opened List's entries and blocks. -/
structure BlkOk (b : List UInt8) (S : List SkV) (cs : List (List PostV)) : Prop where
  len : cs.length = S.length
  at_ : ∀ (k : Nat) (h : k < S.length) (h2 : k < cs.length), unpV (lastS (S.take k)) S[k].docs ((b.drop S[k].at_).take S[k].size) = some cs[k] ∧ -1 ≤ lastS (S.take k) ∧ lastS (S.take k) < 2147483647 ∧ S[k].last = lastV (lastS (S.take k)) cs[k] ∧ S[k].at_ + S[k].size ≤ b.length ∧ 1 ≤ S[k].docs ∧ S[k].docs ≤ 16
  sl : S.length ≤ 1000000001
theorem blkOk {b : List UInt8} {r : OpenR} (h : openV b = some r) (hb : b.length ≤ 1000000000) : BlkOk b r.sk r.bl := by
  unfold openV at h
  cases hh : headsV b with
  | none => rw [hh] at h; cases h
  | some y =>
    obtain ⟨n, t, S⟩ := y
    rw [hh] at h
    simp only at h
    obtain ⟨q, R, hok⟩ := headsOk hh hb
    cases hk : blkV b (-1) S with
    | none => rw [hk] at h; cases h
    | some bl =>
      rw [hk] at h
      simp only at h
      split at h
      · injection h with h
        subst h
        have hSR : S.length = R.length := by rw [hok.eq, putAt_length]
        have hget : ∀ (k : Nat) (h : k < S.length), S[k] = ⟨(R[k]'(by omega)).last, (R[k]'(by omega)).docs, q + sizesV (R.take k), (R[k]'(by omega)).size⟩ := fun k h => by
          have h1 := putAt_get R q k (by rw [putAt_length]; omega) (by omega)
          rw [← h1]; congr 1; exact hok.eq
        obtain ⟨i1, i2⟩ := blkV_at S (-1) bl (by omega) (by omega) (fun s hs => by
          obtain ⟨k, hk, rfl⟩ := List.getElem_of_mem hs
          rw [hget k hk]
          exact (hok.dc (R[k]'(by omega)) (List.getElem_mem _)).1) hk
        refine ⟨i1, fun k h1 h2 => ?_, hok.len⟩
        simp only at h1 h2 ⊢
        obtain ⟨j1, j2, j3, j4⟩ := i2 k h1 h2
        refine ⟨j1, j2, j3, j4, ?_, ?_⟩
        · rw [hget k h1]
          have := sizes_at R k (by omega)
          have := hok.sz
          simp only
          omega
        · rw [hget k h1]
          exact hok.dc (R[k]'(by omega)) (List.getElem_mem _)
      · cases h
theorem pcells_append (a b : List PostV) (va vb : Nat → Value) : pcells (a ++ b) (fun k => if k < a.length then va k else vb (k - a.length)) = pcells a va ++ pcells b vb := by
  refine List.ext_getElem? fun j => ?_
  by_cases hj : j < (a ++ b).length * 2
  · rw [pcells_get _ _ j hj]
    rw [List.length_append] at hj
    by_cases h1 : j < a.length * 2
    · rw [List.getElem?_append_left (by rw [pcells_length]; exact h1), pcells_get _ _ j h1, if_pos (show j / 2 < a.length by omega), getD_at _ _ (by rw [List.length_append]; omega), getD_at _ _ (by omega), List.getElem_append_left]
    · rw [List.getElem?_append_right (by rw [pcells_length]; omega), pcells_length, pcells_get _ _ _ (by omega), if_neg (show ¬ j / 2 < a.length by omega), getD_at _ _ (by rw [List.length_append]; omega), getD_at _ _ (by omega), List.getElem_append_right (by omega)]
      rw [show (j - a.length * 2) % 2 = j % 2 by omega]
      simp only [show (j - a.length * 2) / 2 = j / 2 - a.length by omega]
  · rw [pcells_none _ _ _ hj, List.getElem?_eq_none (by rw [List.length_append, pcells_length, pcells_length]; rw [List.length_append] at hj; omega)]
theorem RowP.nil (w : World) (base : Nat) : RowP w base (.slice none 0 0) [] (fun _ => .slice none 0 0) := ⟨⟨rfl, .inl ⟨rfl, rfl⟩⟩, fun k hk => by simp at hk, fun k l b hk => by simp at hk⟩
theorem own_oneCell {w : World} {base : Nat} {e : TypeId} {v : Value} {xs : List Value} (h : Own w base e v xs) : v.oneCell' = true := by
  obtain ⟨a, c, rfl⟩ := own_slice h; rfl
theorem post_info2 : (Tryd.prog.info? 53).map (fun i => (i.size, i.bytes, (i.zero.map fun z => z.cells.size))) = some (2, 32, some 2) := by kernel_rfl
set_option maxRecDepth 100000 in
theorem run_apPs {w : World} {base b2 : Nat} {v : Value} {ps ps2 : List PostV} {vs vs2 : Nat → Value} (ty : TypeId) {a2 : Option Addr} {n2 c2 : Nat} (hown : RowP w base v ps vs) (h2 : RowP w b2 (.slice a2 n2 c2) ps2 vs2) (hsep : ∀ k l b, k < ps.length → l < ps2.length → (vs k).ownBlock = some b → (vs2 l).ownBlock ≠ some b) (hge : base ≤ b2)
    (hlen : ps.length + ps2.length ≤ 1000000000) (hbase : base ≤ w.heap.size) :
    ∃ v' w', (Builtin.append_ #[22, 22] ty #[v, .slice a2 n2 c2]).run Tryd.prog w = .ok v' w' ∧ RowP w' base v' (ps ++ ps2) (fun k => if k < ps.length then vs k else vs2 (k - ps.length)) ∧ w.grownBy w' v.ownBlock := by
  obtain ⟨i0, hi, hrest⟩ := Option.map_eq_some_iff.1 post_info2
  simp only [Prod.mk.injEq] at hrest
  obtain ⟨h8, hby, hz⟩ := hrest
  obtain ⟨z, hz, hzs⟩ := Option.map_eq_some_iff.1 hz
  have hfin : ∀ w', w.grownBy w' v.ownBlock → (∀ k (h : k < (ps ++ ps2).length), Own w' base 3 (if k < ps.length then vs k else vs2 (k - ps.length)) (intL (ps ++ ps2)[k].pos)) ∧ (∀ k l b, k < (ps ++ ps2).length → l < (ps ++ ps2).length → k ≠ l → (if k < ps.length then vs k else vs2 (k - ps.length)).ownBlock = some b → (if l < ps.length then vs l else vs2 (l - ps.length)).ownBlock ≠ some b) := fun w' hg => by
    have he : Eff (fun k => v.ownBlock = some k) w w' := (Eff.refl _ w).grown hg (fun k hk _ => hk)
    have hk : ∀ (y : Value) (ys : List Value) (b : Nat), Own w b 3 y ys → Own w' b 3 y ys := fun y ys b ho => ho.eff he (fun q hq e => row_ne_own hown.row ho (by decide) e hq)
    refine ⟨fun k h => ?_, fun k l b hk' hl hkl hb => ?_⟩
    · by_cases hlt : k < ps.length
      · rw [if_pos hlt, List.getElem_append_left hlt]
        exact hk _ _ _ (hown.own k hlt)
      · rw [if_neg hlt, List.getElem_append_right (by omega)]
        rw [List.length_append] at h
        exact own_base (hk _ _ _ (h2.own (k - ps.length) (by omega))) hge
    · rw [List.length_append] at hk' hl
      by_cases h1 : k < ps.length
      · rw [if_pos h1] at hb
        by_cases h3 : l < ps.length
        · rw [if_pos h3]; exact hown.sep k l b h1 h3 hkl hb
        · rw [if_neg h3]; exact hsep k (l - ps.length) b h1 (by omega) hb
      · rw [if_neg h1] at hb
        by_cases h3 : l < ps.length
        · rw [if_pos h3]; exact fun h9 => hsep l (k - ps.length) b h3 (by omega) h9 hb
        · rw [if_neg h3]; exact h2.sep _ _ b (by omega) (by omega) (by omega) hb
  have hsl := h2.sl
  obtain ⟨_, _, e, _⟩ := hsl
  injection e with _ e _
  subst e
  by_cases h0 : 0 < ps2.length
  · obtain ⟨g2, rfl, _⟩ := h2.at_ 0 h0
    obtain ⟨v', w', k1, k2, k3, _⟩ := run_append_own (P := Tryd.prog) w base 22 ty 53 i0 z 2 32 Tryd.underlying22 hi hz h8 hby hzs (by decide) v ps.length _ hown.row ⟨g2, 0, none⟩ ps2.length c2
      (pcells ps2 vs2) (pcells_length _ _) (fun j u hu => by
        exact World.ownsRow.cells h2.row (g := g2) rfl j u hu) (fun u hu => by
        obtain ⟨j, hj, rfl⟩ := List.getElem_of_mem hu
        have hj' : j < ps2.length * 2 := by rwa [pcells_length] at hj
        have h9 := pcells_get ps2 vs2 j hj'
        rw [List.getElem?_eq_getElem hj] at h9
        injection h9 with h9
        rw [h9]
        split
        · rfl
        · exact own_oneCell (h2.own (j / 2) (by omega))) (by unfold maxLen; omega) (by omega) hbase
    obtain ⟨f1, f2⟩ := hfin w' k3
    refine ⟨v', w', k1, ⟨?_, f1, f2⟩, k3⟩
    rw [pcells_append, List.length_append]; exact k2
  · have he : ps2 = [] := List.eq_nil_of_length_eq_zero (by omega)
    subst he
    obtain ⟨f1, f2⟩ := hfin w (World.grownBy.refl w _)
    refine ⟨v, w, ?_, ⟨?_, f1, f2⟩, World.grownBy.refl w _⟩
    · rcases hown.row.2 with ⟨rfl, _⟩ | ⟨g, cap, cur, rfl, _, hgg, hnc, _⟩
      · cases a2 <;> simp [Builtin.append_, run_underlying Tryd.underlying22, sizeOf, typeInfo, hi, Builtin.lenOf, Builtin.firstCells, loadCells, loadCellsFrom]
      · cases a2 <;> simp [Builtin.append_, run_underlying Tryd.underlying22, sizeOf, typeInfo, hi, Builtin.lenOf, Builtin.firstCells, hnc, storeCells, loadCells, loadCellsFrom]
    · rw [pcells_append, List.length_append]
      have : pcells [] vs2 = [] := rfl
      rw [this, List.append_nil]
      exact hown.row
set_option maxRecDepth 100000 in
theorem apPs {w : World} {base b2 : Nat} {v : Value} {ps ps2 : List PostV} {vs vs2 : Nat → Value} {a2 : Option Addr} {n2 c2 : Nat} (hown : RowP w base v ps vs) (h2 : RowP w b2 (.slice a2 n2 c2) ps2 vs2) (hsep : ∀ k l b, k < ps.length → l < ps2.length → (vs k).ownBlock = some b → (vs2 l).ownBlock ≠ some b) (hge : base ≤ b2)
    (hlen : ps.length + ps2.length ≤ 1000000000) (hbase : base ≤ w.heap.size)
    {ops : Array Oper} {rest : List Oper} {o : Oper} {a : Act} {Q : Exit → Act → World → Prop} (hgd : o.guard = none) (x y : Operand)
    (ho : o.op = .call { callee := .builtin .append, args := #[x, y], argTypes := #[22, 22] }) (hx : a.eval x = v) (hy : a.eval y = .slice a2 n2 c2)
    (h : ∀ v' w', RowP w' base v' (ps ++ ps2) (fun k => if k < ps.length then vs k else vs2 (k - ps.length)) → w.grownBy w' v.ownBlock → wpList Tryd.prog ops Q rest (a.put o.dst v') w') : wpList Tryd.prog ops Q (o :: rest) a w :=
  wpList_plain hgd fun _ hK => by
    obtain ⟨v', w', hr, k2, k3⟩ := run_apPs o.type hown h2 hsep hge hlen hbase (c2 := c2)
    unfold Oper.wp execOp
    simp only [ho, resolve, invoke, builtin, Sem.run_bind, Sem.run_pure, Result.andThen_ok, List.map_toArray, List.map_cons, List.map_nil, hx, hy, hr]
    exact hK _ _ (h v' w' k2 k3)
end Go.Proofs.YthnpbfadblcicaaDoor

/- posts: one posting appended to a list of the call's own. -/
namespace Go.Proofs.YthnpbfadblcicaaDoor
set_option linter.unusedVariables false
open Go.ChangeShapes Go.WideShapes Go.ChangeAt Go.RowKit

theorem rowP_empty (w : World) (base : Nat) (h : base ≤ w.heap.size) : RowP (w.alloc (.cells #[] 53)) base (.slice (some ⟨w.heap.size, 0, none⟩) 0 0) [] (fun _ => .slice none 0 0) :=
  ⟨⟨rfl, .inr ⟨w.heap.size, 0, #[], rfl, h, heap_alloc_new w _, Nat.le_refl _, by unfold maxLen; omega, rfl, rfl⟩⟩, fun k hk => by simp at hk, fun k l b hk => by simp at hk⟩
theorem pcells_one (d : Int) (pos : List Int) (s : Value) : pcells [⟨d, pos⟩] (fun _ => s) = [.int .i64 d, s] := by simp [pcells, List.range_succ]
set_option maxRecDepth 100000 in
theorem apP1 {w0 : World} {base : Nat} {v : Value} {ps : List PostV} {vs : Nat → Value} (hown : RowP w0 base v ps vs) (d : Int) (pos : List Int) (s : Value) (hs : Own w0 base 3 s (intL pos)) (hsep : ∀ k b, k < ps.length → (vs k).ownBlock = some b → s.ownBlock ≠ some b)
    (hlen : ps.length ≤ 1000000000) (hbase : base ≤ w0.heap.size)
    {ops : Array Oper} {rest : List Oper} {o : Oper} {a : Act} {Q : Exit → Act → World → Prop} (hgd : o.guard = none) (x y : Operand)
    (ho : o.op = .call { callee := .builtin .append, args := #[x, y], argTypes := #[22, 22] }) (hx : a.eval x = v) (hy : a.eval y = .slice (some ⟨w0.heap.size, 0, none⟩) 1 1)
    (h : ∀ v' w', RowP w' base v' (ps ++ [⟨d, pos⟩]) (fun k => if k < ps.length then vs k else s) → w0.grownBy w' v.ownBlock → wpList Tryd.prog ops Q rest (a.put o.dst v') w') :
    wpList Tryd.prog ops Q (o :: rest) a (w0.alloc (.cells #[.int .i64 d, s] 53)) := by
  obtain ⟨i0, hi, hrest⟩ := Option.map_eq_some_iff.1 post_info2
  simp only [Prod.mk.injEq] at hrest
  obtain ⟨h8, hby, hz⟩ := hrest
  obtain ⟨z, hz, hzs⟩ := Option.map_eq_some_iff.1 hz
  refine wpList_append_own (P := Tryd.prog) _ hgd x y 22 ho base 53 i0 z 2 32 Tryd.underlying22 hi hz h8 hby hzs (by decide) v ps.length _ hx (World.ownsRow.alloc hown.row _) ⟨w0.heap.size, 0, none⟩ 1 1
    [.int .i64 d, s] hy rfl (fun j u hu => ?_) ?_ (by unfold maxLen; omega) (by omega) (by simp; omega) ?_
  · rw [addr_add, Nat.zero_add, blk_cell (heap_alloc_new w0 _) j]
    rw [← hu]; simp
  · intro u hu
    simp only [List.mem_cons, List.not_mem_nil, or_false] at hu
    rcases hu with rfl | rfl
    · rfl
    · exact own_oneCell hs
  · intro v' w' h1 h2 h3
    have h2' : w0.grownBy w' v.ownBlock := ⟨h2.os, h2.tape, h2.output, Nat.le_trans (by simp) h2.size, fun k hk hne => (h2.block k (by simp; omega) hne).trans (Below.heap_alloc _ _ _ hk)⟩
    have he : Eff (fun k => v.ownBlock = some k) w0 w' := (Eff.refl _ w0).grown h2' (fun k hk _ => hk)
    have hk : ∀ (y : Value) (ys : List Value), Own w0 base 3 y ys → Own w' base 3 y ys := fun y ys ho => ho.eff he (fun q hq e => row_ne_own hown.row ho (by decide) e hq)
    refine h v' w' ⟨?_, fun k hk' => ?_, fun k l b hk' hl hkl hb => ?_⟩ h2'
    · have h9 := pcells_append ps [⟨d, pos⟩] vs (fun _ => s)
      rw [pcells_one] at h9
      rw [h9, List.length_append]
      exact h1
    · by_cases hlt : k < ps.length
      · rw [if_pos hlt, List.getElem_append_left hlt]
        exact hk _ _ (hown.own k hlt)
      · rw [if_neg hlt, List.getElem_append_right (by omega)]
        simp only [List.getElem_singleton]
        exact hk _ _ hs
    · rw [List.length_append, List.length_singleton] at hk' hl
      by_cases h4 : k < ps.length
      · rw [if_pos h4] at hb
        by_cases h5 : l < ps.length
        · rw [if_pos h5]; exact hown.sep k l b h4 h5 hkl hb
        · rw [if_neg h5]; exact hsep k b h4 hb
      · rw [if_neg h4] at hb
        by_cases h5 : l < ps.length
        · rw [if_pos h5]; exact fun h9 => hsep l b h5 h9 hb
        · omega
end Go.Proofs.YthnpbfadblcicaaDoor
