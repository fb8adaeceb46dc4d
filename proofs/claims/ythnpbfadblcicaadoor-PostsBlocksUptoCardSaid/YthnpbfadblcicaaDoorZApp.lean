/- append of a make (a number stands in the place of a slice) and of a string, onto an owned list. No program occurs here. -/
import Derived.Test.YthnpbfadblcicaaDoorZLib
import Derived.Lib.AppendZerosOnto
import Derived.Lib.AppendStr
namespace Go.Proofs.YthnpbfadblcicaaDoor
set_option linter.unusedVariables false
open Go.RowKit

/-- What an append leaves, whatever its source is, from its three ways. -/
theorem app_core {P : Program} {t e : TypeId} {z : Value} {bytes : Nat} (E : Elem P t e z bytes) {w : World} {base : Nat} {v : Value} {xs news : List Value} (run : Result Value)
    (hown : Own w base e v xs) (h1 : ∀ u ∈ news, u.oneCell' = true) (hlen : xs.length + news.length < 1000000000001) (hbase : base ≤ w.heap.size)
    (hnone : news = [] → run = .ok v w)
    (hnil : 0 < news.length → v = .slice none 0 0 → run = .ok (.slice (some ⟨w.heap.size, 0, none⟩) news.length (grownCap w news.length 0 e)) (w.drew.alloc (.cells (news.toArray ++ Builtin.zeroCells z.cells (grownCap w news.length 0 e - news.length)) e)))
    (hroom : ∀ g cap cur, 0 < news.length → v = .slice (some ⟨g, 0, none⟩) xs.length cap → w.heap[g]? = some (.cells cur e (0, 0)) → xs.length + news.length ≤ cap → xs.length + news.length ≤ cur.size →
      run = .ok (.slice (some ⟨g, 0, none⟩) (xs.length + news.length) cap) (w.setRow g (cur.toList.take xs.length ++ news ++ cur.toList.drop (xs.length + news.length)).toArray))
    (hgrow : ∀ g cap, 0 < news.length → v = .slice (some ⟨g, 0, none⟩) xs.length cap → (∀ j u, xs[j]? = some u → w.cell? ((⟨g, 0, none⟩ : Addr).add j) = some u) → cap < xs.length + news.length →
      run = .ok (.slice (some ⟨w.heap.size, 0, none⟩) (xs.length + news.length) (grownCap w (xs.length + news.length) cap e)) (w.drew.alloc (.cells (xs.toArray ++ news.toArray ++ Builtin.zeroCells z.cells (grownCap w (xs.length + news.length) cap e - (xs.length + news.length))) e))) :
    ∃ v' w', run = .ok v' w' ∧ Own w' base e v' (xs ++ news) ∧ Keeps w w' v xs.length ∧ w.grownBy w' v.ownBlock ∧
      (v'.ownBlock = v.ownBlock ∨ (v'.ownBlock = some w.heap.size ∧ Below w.heap.size w w')) := by
  have h63 : xs.length + news.length ≤ maxLen := by unfold maxLen; omega
  rcases Nat.eq_zero_or_pos news.length with h0 | hpos
  · have hn : news = [] := List.eq_nil_of_length_eq_zero h0
    exact ⟨v, w, hnone hn, by rw [hn]; simpa using hown, fun _ _ _ _ h _ => h, World.grownBy.refl w _, .inl rfl⟩
  · rcases hown with ⟨rfl, rfl⟩ | ⟨g, cap, cur, rfl, hbg, hg, hnc, hcs, hcm, ht⟩
    · refine ⟨_, _, hnil hpos rfl, ?_, keeps_below (below_new w _) _ _, ?_, .inr ⟨rfl, below_new w _⟩⟩
      · rw [List.nil_append]; exact app_new z E.zc news news.length 0 rfl (by simpa using h63) hbase
      · have := below_new w (.cells (news.toArray ++ Builtin.zeroCells z.cells (grownCap w news.length 0 e - news.length)) e)
        exact ⟨this.os, this.tape, this.output, this.size, fun k hk _ => this.block k hk⟩
    · by_cases hrm : xs.length + news.length ≤ cap
      · have hrow := setRow_heap w g cur (cur.toList.take xs.length ++ news ++ cur.toList.drop (xs.length + news.length)).toArray e (0, 0) hg
        have hsz : (cur.toList.take xs.length ++ news ++ cur.toList.drop (xs.length + news.length)).toArray.size = cur.size := by
          simp only [List.size_toArray, List.length_append, List.length_take, List.length_drop, Array.length_toList]; omega
        refine ⟨_, _, hroom g cap cur hpos rfl hg hrm (by omega), .inr ⟨g, cap, _, by rw [List.length_append], hbg, hrow, by rw [List.length_append]; exact hrm, by rw [hsz]; exact hcs, hcm, ?_⟩, ?_,
          ⟨rfl, rfl, rfl, by simp, fun k _ hk => setRow_other w g k _ (fun e => hk (by simp [Value.ownBlock, e]))⟩, .inl rfl⟩
        · rw [ht]; exact List.take_left
        · intro base' e' y ys hy hk
          rcases hy with hy | ⟨g', cap', cur', rfl, hb', hh', k1, k2, k3, k4⟩
          · exact .inl hy
          · by_cases eg : g' = g
            · subst eg
              rw [hg] at hh'
              injection hh' with hh'
              injection hh' with e1 e2
              subst e1 e2
              have hle := hk g' rfl rfl
              refine .inr ⟨g', cap', _, rfl, hb', hrow, k1, by rw [hsz]; exact k2, k3, ?_⟩
              rw [List.append_assoc, List.take_append_of_le_length (by have hcl : cur.toList.length = cur.size := Array.length_toList; rw [List.length_take]; omega), List.take_take, Nat.min_eq_left hle, k4]
            · exact .inr ⟨g', cap', cur', rfl, hb', (setRow_other w g g' _ eg).trans hh', k1, k2, k3, k4⟩
      · have holds : ∀ j u, xs[j]? = some u → w.cell? ((⟨g, 0, none⟩ : Addr).add j) = some u := fun j u hu => by
          rw [addr_add, Nat.zero_add, cell_of_row _ _ _ _ _ _ hg]; exact take_get ht hu
        have hn := app_new (w := w) (base := base) (e := e) z E.zc (xs ++ news) (xs.length + news.length) cap (by simp) h63 hbase
        rw [show (xs ++ news).toArray = xs.toArray ++ news.toArray by simp] at hn
        refine ⟨_, _, hgrow g cap hpos rfl holds (by omega), hn, keeps_below (below_new w _) _ _, ?_, .inr ⟨rfl, below_new w _⟩⟩
        · have := below_new w (.cells (xs.toArray ++ news.toArray ++ Builtin.zeroCells z.cells (grownCap w (xs.length + news.length) cap e - (xs.length + news.length))) e)
          exact ⟨this.os, this.tape, this.output, this.size, fun k hk _ => this.block k hk⟩

theorem zeroCells_one (z : Value) (hz : z.cells = #[z]) (n : Nat) : Builtin.zeroCells z.cells n = (List.replicate n z).toArray := by
  refine Array.ext (by simp [Builtin.zeroCells, hz]) fun i h1 h2 => ?_
  simp [Builtin.zeroCells, hz, Nat.mod_one]

/-- append(v, make([]T, n)...) -/
theorem run_app_zeros {P : Program} {t tn e : TypeId} {z : Value} {bytes : Nat} (E : Elem P t e z bytes) (htn : P.underlying tn = some (.int .i64)) (hzc : z.cells = #[z]) (hz1 : z.oneCell' = true) {w : World} {base : Nat} {v : Value} {xs : List Value} (ty : TypeId) (n : Nat)
    (hown : Own w base e v xs) (hlen : xs.length + n < 1000000000001) (hbase : base ≤ w.heap.size) :
    ∃ v' w', (Builtin.append_ #[t, tn] ty #[v, .int .i64 (n : Nat)]).run P w = .ok v' w' ∧ Own w' base e v' (xs ++ List.replicate n z) ∧ Keeps w w' v xs.length ∧ w.grownBy w' v.ownBlock ∧
      (v'.ownBlock = v.ownBlock ∨ (v'.ownBlock = some w.heap.size ∧ Below w.heap.size w w')) := by
  obtain ⟨i, hi, hz0, hi1, hz2⟩ := info_parts E.info
  have hbytes : (xs.length + n) * bytes ≤ 140737488355328 := Nat.le_trans (Nat.mul_le_mul (show xs.length + n ≤ 1000000000000 by omega) E.sm) (by decide)
  have hnb : n * bytes ≤ 140737488355328 := Nat.le_trans (Nat.mul_le_mul_right _ (by omega)) hbytes
  have hw : IntKind.i64.wrap (n : Int) = n := by rw [IntKind.wrap_i64]; omega
  have h48i : ¬ (281474976710656 < (n : Int) * (i.bytes : Int)) := by rw [hz2, ← Int.natCast_mul]; omega
  have hneg : ¬ ((n : Int) < 0) := by omega
  have hrl : (List.replicate n z).length = n := List.length_replicate
  refine app_core E _ hown (fun u hu => by rw [(List.mem_replicate.1 hu).2]; exact hz1) (by rw [hrl]; exact hlen) hbase ?_ ?_ ?_ ?_
  · intro h0
    have hn : n = 0 := by rw [← hrl, h0]; rfl
    subst hn
    have hw0 : IntKind.i64.wrap 0 = 0 := by rw [IntKind.wrap_i64]; rfl
    rcases hown.shape with ⟨rfl, rfl⟩ | ⟨g, cap, rfl, _, _, hc, _, _⟩
    · simp [Builtin.append_, run_underlying E.und, run_underlying htn, sizeOf, typeInfo, zeroValue, hi, asInt, asIntOf, hw0, Builtin.lenOf, Builtin.firstCells]
    · simp [Builtin.append_, run_underlying E.und, run_underlying htn, sizeOf, typeInfo, zeroValue, hi, asInt, asIntOf, hw0, Builtin.lenOf, Builtin.firstCells, hc, storeCells]
  · intro hp hv
    subst hv
    rw [hrl] at hp ⊢
    have := Lib.run_append_nil_zeros (P := P) w t tn ty e i z .i64 .i64 E.und htn hi hz0 n hp (by omega) (by omega) (by rw [hz2]; omega)
    rw [this, zeroCells_one z hzc n]
  · intro g cap cur hp hv hg hc hcs
    subst hv
    rw [hrl] at hp hc hcs ⊢
    have hst := run_storeCells_at P g xs.length e (List.replicate n z) 0 cur w hg (by simpa using hcs) (fun u hu => by rw [(List.mem_replicate.1 hu).2]; exact hz1)
    simp only [Nat.add_zero, hrl] at hst
    have hn0 : n ≠ 0 := by omega
    simp [Builtin.append_, run_underlying E.und, run_underlying htn, sizeOf, typeInfo, zeroValue, hi, hz0, hi1, asInt, asIntOf, hw, hneg, h48i, Builtin.lenOf, hc, hn0, zeroCells_one z hzc n, Addr.add_lit, hst]
  · intro g cap hp hv holds hc
    subst hv
    rw [hrl] at hp hc ⊢
    have hf := run_firstCells_some (P := P) w.drew i.size xs.length ⟨g, 0, none⟩ xs.length cap xs (by rw [hi1]; omega) (by simpa using holds)
    have := Lib.run_append_grow_zeros (P := P) w t tn ty e i z .i64 .i64 E.und htn hi hz0 _ xs.length cap xs hf n hp (by omega) hc (by omega) (by rw [hz2]; omega) (growslice_fits hc (by rw [hz2]; exact hbytes))
    rw [this, zeroCells_one z hzc n]

/-- append(v, s...), s a string -/
theorem run_app_string {P : Program} {t u e : TypeId} (E : Elem P t e (.int .u8 0) 1) (hu : P.underlying u = some .string) {w : World} {base : Nat} {v : Value} {xs : List Value} (ty : TypeId) (s : ByteArray)
    (hown : Own w base e v xs) (hlen : xs.length + s.size < 1000000000001) (hbase : base ≤ w.heap.size) :
    ∃ v' w', (Builtin.append_ #[t, u] ty #[v, .string s]).run P w = .ok v' w' ∧ Own w' base e v' (xs ++ bytesV s.data.toList) ∧ Keeps w w' v xs.length ∧ w.grownBy w' v.ownBlock ∧
      (v'.ownBlock = v.ownBlock ∨ (v'.ownBlock = some w.heap.size ∧ Below w.heap.size w w')) := by
  obtain ⟨i, hi, hz0, hi1, hz2⟩ := info_parts E.info
  have hsl : (bytesV s.data.toList).length = s.size := by rw [bytesV_length]; exact Array.length_toList
  have hcs : Lib.strCells s = bytesV s.data.toList := rfl
  refine app_core E _ hown (bytesV_one _) (by rw [hsl]; exact hlen) hbase ?_ ?_ ?_ ?_
  · intro h0
    have hn : s.size = 0 := by rw [← hsl, h0]; rfl
    have hd : s.data = #[] := Array.eq_empty_of_size_eq_zero hn
    rcases hown.shape with ⟨rfl, rfl⟩ | ⟨g, cap, rfl, _, _, hc, _, _⟩
    · simp [Builtin.append_, run_underlying E.und, run_underlying hu, sizeOf, typeInfo, hi, Builtin.lenOf, hn, Builtin.firstCells]
    · simp [Builtin.append_, run_underlying E.und, run_underlying hu, sizeOf, typeInfo, hi, Builtin.lenOf, hn, Builtin.firstCells, hc]
      simp [storeCells]
  · intro hp hv
    subst hv
    rw [hsl] at hp ⊢
    have := run_append_nil_string (P := P) w t u ty e i _ E.und hu hi hz0 s hp (by omega) (by rw [hz2]; omega)
    rw [this, show (bytesV s.data.toList).toArray = s.data.map (fun b => Value.int .u8 b.toNat) by apply Array.ext'; simp [bytesV]]
  · intro g cap cur hp hv hg hc hcs
    subst hv
    rw [hsl] at hp hc hcs ⊢
    exact Lib.run_append_room_string (P := P) w t u ty e i E.und hu hi hi1 g xs.length cap cur hg s hc hcs
  · intro g cap hp hv holds hc
    subst hv
    rw [hsl] at hp hc ⊢
    exact Lib.run_append_grow_string (P := P) w t u ty e i _ E.und hu hi hz0 ⟨g, 0, none⟩ xs.length cap xs (by rw [hi1]; omega) holds s hc (by omega) (growslice_fits hc (by rw [hz2]; omega))

/-- The same as laws of the walk. -/
theorem apZ {P : Program} {t tn e : TypeId} {z : Value} {bytes : Nat} (E : Elem P t e z bytes) (htn : P.underlying tn = some (.int .i64)) (hzc : z.cells = #[z]) (hz1 : z.oneCell' = true) {w : World} {base : Nat} {v : Value} {xs : List Value} {n : Nat}
    (hown : Own w base e v xs) (hlen : xs.length + n < 1000000000001) (hbase : base ≤ w.heap.size)
    {ops : Array Oper} {rest : List Oper} {o : Oper} {a : Act} {Q : Exit → Act → World → Prop} (hgd : o.guard = none) (x y : Operand)
    (ho : o.op = .call { callee := .builtin .append, args := #[x, y], argTypes := #[t, tn] }) (hx : a.eval x = v) (hy : a.eval y = .int .i64 (n : Nat))
    (h : ∀ v' w', Own w' base e v' (xs ++ List.replicate n z) → Keeps w w' v xs.length → (v'.ownBlock = v.ownBlock ∨ (v'.ownBlock = some w.heap.size ∧ Below w.heap.size w w')) → w.grownBy w' v.ownBlock → wpList P ops Q rest (a.put o.dst v') w') : wpList P ops Q (o :: rest) a w := by
  obtain ⟨v', w', hr, h2, h3, h4, h5⟩ := run_app_zeros E htn hzc hz1 o.type n hown hlen hbase
  exact Lib.wpList_append_run w hgd x y t tn ho _ _ hx hy v' w' hr (h v' w' h2 h3 h5 h4)
theorem apS {P : Program} {t u e : TypeId} (E : Elem P t e (.int .u8 0) 1) (hu : P.underlying u = some .string) {w : World} {base : Nat} {v : Value} {xs : List Value} {s : ByteArray}
    (hown : Own w base e v xs) (hlen : xs.length + s.size < 1000000000001) (hbase : base ≤ w.heap.size)
    {ops : Array Oper} {rest : List Oper} {o : Oper} {a : Act} {Q : Exit → Act → World → Prop} (hgd : o.guard = none) (x y : Operand)
    (ho : o.op = .call { callee := .builtin .append, args := #[x, y], argTypes := #[t, u] }) (hx : a.eval x = v) (hy : a.eval y = .string s)
    (h : ∀ v' w', Own w' base e v' (xs ++ bytesV s.data.toList) → Keeps w w' v xs.length → (v'.ownBlock = v.ownBlock ∨ (v'.ownBlock = some w.heap.size ∧ Below w.heap.size w w')) → w.grownBy w' v.ownBlock → wpList P ops Q rest (a.put o.dst v') w') : wpList P ops Q (o :: rest) a w := by
  obtain ⟨v', w', hr, h2, h3, h4, h5⟩ := run_app_string E hu o.type s hown hlen hbase
  exact Lib.wpList_append_run w hgd x y t u ho _ _ hx hy v' w' hr (h v' w' h2 h3 h5 h4)
end Go.Proofs.YthnpbfadblcicaaDoor
