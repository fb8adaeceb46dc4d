/- Merged: Writer, App. -/
import Derived.Test.YtejmjjgbbojfbaaDoorZG3
import Derived.Test.YtejmjjgbbojfbaaDoorZLib
import Derived.Lib.AppendZerosOnto
import Derived.Lib.AppendStr
/- codec.Writer: its memory; NewWriter, Uvarint, Len, Reset. -/
namespace Go.Proofs.YtejmjjgbbojfbaaDoor
set_option linter.unusedVariables false
open Go.ChangeShapes Go.WideShapes Go.ChangeAt Go.RowKit

/-- A Writer at block p that holds bs. -/
structure Wr (w : World) (base p : Nat) (v : Value) (bs : List UInt8) : Prop where
  blk : w.heap[p]? = some (.cells #[v] 164 (0, 0))
  hp : base ≤ p
  own : Own w base 5 v (bytesV bs)
/-- The blocks of a Writer. -/
def WrB (p : Nat) (v : Value) (k : Nat) : Prop := k = p ∨ v.ownBlock = some k
/-- v' lies where v lay, or in new memory. -/
def Fresh (n : Nat) (v v' : Value) : Prop := ∀ k, v'.ownBlock = some k → v.ownBlock = some k ∨ n ≤ k
theorem Fresh.refl (n : Nat) (v : Value) : Fresh n v v := fun _ h => .inl h
theorem Fresh.trans {n m : Nat} {a b c : Value} (h : Fresh n a b) (k : Fresh m b c) (hm : n ≤ m) : Fresh n a c := fun i hi => (k i hi).elim (fun h2 => h i h2) (fun h2 => .inr (by omega))
/-- From w to w' a Writer at p went from v to v': nothing else has turned. -/
structure Wrote (w w' : World) (p : Nat) (v v' : Value) : Prop where
  eff : Eff (WrB p v) w w'
  fresh : Fresh w.heap.size v v'
theorem Wrote.refl (w : World) (p : Nat) (v : Value) : Wrote w w p v v := ⟨Eff.refl _ _, Fresh.refl _ _⟩
theorem Wrote.trans {a b c : World} {p : Nat} {u v x : Value} (h : Wrote a b p u v) (k : Wrote b c p v x) : Wrote a c p u x :=
  ⟨h.eff.trans k.eff (fun i hi hlt => by
    rcases hi with hi | hi
    · exact .inl hi
    · rcases h.fresh i hi with h2 | h2
      · exact .inr h2
      · omega), h.fresh.trans k.fresh h.eff.size⟩
theorem Wrote.drewN {a b : World} {p : Nat} {u v : Value} (h : Wrote a b p u v) (d : Nat) : Wrote a (b.drewN d) p u v := ⟨h.eff.drewN d, h.fresh⟩
theorem Wr.drewN {w : World} {base p : Nat} {v : Value} {bs : List UInt8} (h : Wr w base p v bs) (d : Nat) : Wr (w.drewN d) base p v bs := ⟨h.blk, h.hp, h.own.drewN d⟩
theorem Wr.eff {F : Nat → Prop} {w w' : World} {base p : Nat} {v : Value} {bs : List UInt8} (h : Wr w base p v bs) (e : Eff F w w') (hF : ∀ k, WrB p v k → ¬ F k) : Wr w' base p v bs :=
  ⟨(e.block p (lt_of_heap h.blk) (hF p (.inl rfl))).trans h.blk, h.hp, h.own.eff e (fun k hk => hF k (.inr hk))⟩
theorem Wr.ge {w : World} {base p : Nat} {v : Value} {bs : List UInt8} (h : Wr w base p v bs) : ∀ k, WrB p v k → base ≤ k ∧ k < w.heap.size := by
  rintro k (rfl | hk)
  · exact ⟨h.hp, lt_of_heap h.blk⟩
  · exact h.own.lt k hk
theorem Wrote.below {w w' : World} {base p : Nat} {v v' : Value} {bs : List UInt8} (h : Wrote w w' p v v') (hw : Wr w base p v bs) (hb : base ≤ w.heap.size) : Below base w w' := h.eff.below (fun k hk => (hw.ge k hk).1) hb
theorem Wr.read {w : World} {base p : Nat} {v : Value} {bs : List UInt8} (h : Wr w base p v bs) : w.cell? ⟨p, 0, none⟩ = some v := blk_cell h.blk 0

/-- Behind an append to a Writer's bytes and the store of the outcome. -/
theorem wr_app {w w1 : World} {base p : Nat} {v v1 : Value} {bs bs1 : List UInt8} (h : Wr w base p v bs) (g1 : Own w1 base 5 v1 (bytesV bs1)) (g3 : v1.ownBlock = v.ownBlock ∨ ∃ k, v1.ownBlock = some k ∧ w.heap.size ≤ k) (g4 : w.grownBy w1 v.ownBlock) :
    Wr (w1.setCell ⟨p, 0, none⟩ v1) base p v1 bs1 ∧ Wrote w (w1.setCell ⟨p, 0, none⟩ v1) p v v1 := by
  have hp1 : w1.heap[p]? = some (.cells #[v] 164 (0, 0)) := (g4.block _ (lt_of_heap h.blk) (fun e => h.own.ne_type h.blk (by decide) e.symm)).trans h.blk
  refine ⟨⟨blk_set hp1 0 v1, h.hp, g1.setOther (g1.ne_type hp1 (by decide)) v1⟩, ⟨((Eff.refl _ _).grown g4 (fun k hk _ => .inr hk)).setCell (p := ⟨p, 0, none⟩) (fun _ => .inl rfl) _, ?_⟩⟩
  intro k hk
  rcases g3 with g3 | ⟨j, g3, hj⟩
  · exact .inl (g3 ▸ hk)
  · rw [g3] at hk; injection hk with hk; exact .inr (by omega)
theorem wr_cell {w w1 : World} {base p : Nat} {v : Value} {bs : List UInt8} (h : Wr w base p v bs) (g4 : w.grownBy w1 v.ownBlock) : w1.cell? ⟨p, 0, none⟩ = some v ∧ w1.frozen? ⟨p, 0, none⟩ = false := by
  have hp1 : w1.heap[p]? = some (.cells #[v] 164 (0, 0)) := (g4.block _ (lt_of_heap h.blk) (fun e => h.own.ne_type h.blk (by decide) e.symm)).trans h.blk
  exact ⟨blk_cell hp1 0, blk_frozen hp1 0⟩

theorem nw_any (w : World) : Calls Tryd.prog 68 #[] w fun e w' => e = .returned (.pointer (some ⟨w.heap.size, 0, none⟩)) ∧ w' = w.alloc (.cells #[.slice none 0 0] 164) := by
  go_enter Tryd.func68, Tryd.ntmps68
  go_wp2
  go_ret
  exact ⟨rfl, rfl⟩
theorem wr_new (w : World) : Wr (w.alloc (.cells #[.slice none 0 0] 164)) w.heap.size w.heap.size (.slice none 0 0) [] := ⟨heap_alloc_new w _, Nat.le_refl _, own_nil _ _ _⟩

set_option maxRecDepth 100000 in
theorem or128 (m : Nat) : bits .or .u8 ((m : Int) % 256) 128 = ((UInt8.ofNat (128 + m % 128)).toNat : Int) := by
  have k : ∀ x, x < 256 → x ||| 128 = 128 + x % 128 := by decide
  rw [show (m : Int) % 256 = ((m % 256 : Nat) : Int) by omega, show (128 : Int) = ((128 : Nat) : Int) from rfl, u8_or_nat _ _ (by omega) (by decide), k _ (by omega), u8_ofNat]
  omega

set_option maxRecDepth 100000 in
set_option maxHeartbeats 1000000 in
theorem wuv_any (w : World) (base p : Nat) (v : Value) (bs : List UInt8) (h : Wr w base p v bs) (hb : base ≤ w.heap.size) (hl : bs.length ≤ 100000000000) (n : Nat) (hn : (n : Int) ≤ 18446744073709551615) :
    Calls Tryd.prog 69 #[.pointer (some ⟨p, 0, none⟩), .int .u64 n] w fun e w' => e = .returned (.tuple #[]) ∧ ∃ v', Wr w' base p v' (bs ++ uvar n) ∧ Wrote w w' p v v' := by
  have hN : (uvar n).length ≤ 10 := (uvar_le n (by omega)).2
  go_enter Tryd.func69, Tryd.ntmps69
  go_wp2
  go_loopw [1] (fun u wr => ∃ (m : Nat) (v' : Value) (acc : List UInt8), (m : Int) ≤ 18446744073709551615 ∧ u = .int .u64 m ∧ Wr wr base p v' (bs ++ acc) ∧ acc ++ uvar m = uvar n ∧ Wrote w wr p v v') (fun u _ => (intOf u).toNat)
  case atStart => exact ⟨n, v, [], hn, rfl, by simpa using h, rfl, Wrote.refl _ _ _⟩
  case round =>
    obtain ⟨m, v', acc, hm, rfl, hw, hacc, hwr⟩ := hrel
    have hla : acc.length + 1 ≤ 10 := by
      have h1 := congrArg List.length hacc
      have := (uvar_le m (by omega)).1
      simp at h1; omega
    have HA := Lib.hid hacc; clear hacc
    have hb0 := Nat.le_trans hb hwr.eff.size
    have hl' : (bytesV (bs ++ acc)).length < 1000000000000 := by rw [bytesV_length, List.length_append]; omega
    have hc := hw.read
    have hown := hw.own
    obtain ⟨av, nv, cv, rfl⟩ := own_sl hown
    by_cases h128 : 128 ≤ (m : Int)
    · go_wp2_with (at_builtin; with_reducible refine ap1' elBytes rfl hown hl' hb0 rfl _ _ rfl rfl rfl ?_)
      intro v1 w1 g1 g2 g3 g4
      obtain ⟨hc1, hf1⟩ := wr_cell hw g4
      obtain ⟨a1, n1, c1, rfl⟩ := own_sl g1
      have g1' : Own w1 base 5 (.slice a1 n1 c1) (bytesV (bs ++ (acc ++ [UInt8.ofNat (128 + m % 128)]))) := by
        rw [← List.append_assoc, bytesV_snoc, ← or128]; exact g1
      obtain ⟨hw2, hwr2⟩ := wr_app hw g1' (g3.imp id (fun h => ⟨_, h.1, by omega⟩)) g4
      have HW := Lib.hid hw2
      have HR := Lib.hid (hwr.trans hwr2)
      clear g1 g1' g2 g3 g4 hw2 hwr2 hw hwr hown
      go_wp2
      go_roundw
      case rel =>
        refine ⟨m / 128, _, acc ++ [UInt8.ofNat (128 + m % 128)], by omega, by go_num, HW.out, ?_, HR.out⟩
        rw [← HA.out, uvar_big (n := m) (by omega)]; simp
      case measure => simp [intOf]; omega
    · go_wp2_with (at_builtin; with_reducible refine ap1' elBytes rfl hown hl' hb0 rfl _ _ rfl rfl rfl ?_)
      intro v1 w1 g1 g2 g3 g4
      obtain ⟨hc1, hf1⟩ := wr_cell hw g4
      obtain ⟨a1, n1, c1, rfl⟩ := own_sl g1
      have g1' : Own w1 base 5 (.slice a1 n1 c1) (bytesV (bs ++ uvar n)) := by
        rw [← HA.out, ← List.append_assoc, uvar_small (n := m) (by omega), bytesV_snoc]
        exact own_last g1 (by rw [u8_ofNat]; omega)
      obtain ⟨hw2, hwr2⟩ := wr_app hw g1' (g3.imp id (fun h => ⟨_, h.1, by omega⟩)) g4
      go_wp2
      go_end0
      exact ⟨rfl, _, hw2, hwr.trans hwr2⟩
end Go.Proofs.YtejmjjgbbojfbaaDoor

/- append of a make (a number stands in the place of a slice) and of a string, onto an owned list. No program occurs here. -/
namespace Go.Proofs.YtejmjjgbbojfbaaDoor
set_option linter.unusedVariables false
open Go.RowKit

/-- What an append leaves, whatever its source is, from its three ways. -/
theorem app_core {P : Program} {t e : TypeId} {z : Value} {bytes : Nat} (E : Elem P t e z bytes) {w : World} {base : Nat} {v : Value} {xs news : List Value} (run : Result Value)
    (hown : Own w base e v xs) (h1 : ∀ u ∈ news, u.oneCell' = true) (hlen : xs.length + news.length < 1000000000001) (hbase : base ≤ w.heap.size)
    (hnone : news = [] → run = .ok v w)
    (hnil : 0 < news.length → v = .slice none 0 0 → run = .ok (.slice (some ⟨w.heap.size, 0, none⟩) news.length (grownCap w news.length 0 e)) (w.drew.alloc (.cells (news.toArray ++ Builtin.zeroCells z.cells (grownCap w news.length 0 e - news.length)) e)))
    (hroom : ∀ g cap cur, 0 < news.length → v = .slice (some ⟨g, 0, none⟩) xs.length cap → w.heap[g]? = some (.cells cur e (0, 0)) → xs.length + news.length ≤ cap → xs.length + news.length ≤ cur.size →
      run = .ok (.slice (some ⟨g, 0, none⟩) (xs.length + news.length) cap) (w.setRow g (cur.toList.take xs.length ++ news ++ cur.toList.drop (xs.length + news.length)).toArray))
    (hgrow : ∀ g cap, 0 < news.length → v = .slice (some ⟨g, 0, none⟩) xs.length cap → (∀ j u, xs[j]? = some u → w.cell? ((⟨g, 0, none⟩ : Addr).add j) = some u) → cap < xs.length + news.length →
      run = .ok (.slice (some ⟨w.heap.size, 0, none⟩) (xs.length + news.length) (grownCap w (xs.length + news.length) cap e)) (w.drew.alloc (.cells (xs.toArray ++ news.toArray ++ Builtin.zeroCells z.cells (grownCap w (xs.length + news.length) cap e - (xs.length + news.length))) e))) :
    ∃ v' w', run = .ok v' w' ∧ Own w' base e v' (xs ++ news) ∧ Keeps w w' v xs.length ∧ w.grownBy w' v.ownBlock ∧
      (v'.ownBlock = v.ownBlock ∨ (v'.ownBlock = some w.heap.size ∧ Below w.heap.size w w')) := by
  have h63 : xs.length + news.length ≤ maxLen := by unfold maxLen; omega
  rcases Nat.eq_zero_or_pos news.length with h0 | hpos
  · have hn : news = [] := List.eq_nil_of_length_eq_zero h0
    exact ⟨v, w, hnone hn, by rw [hn]; simpa using hown, fun _ _ _ _ h _ => h, World.grownBy.refl w _, .inl rfl⟩
  · rcases hown with ⟨rfl, rfl⟩ | ⟨g, cap, cur, rfl, hbg, hg, hnc, hcs, hcm, ht⟩
    · refine ⟨_, _, hnil hpos rfl, ?_, keeps_below (below_new w _) _ _, ?_, .inr ⟨rfl, below_new w _⟩⟩
      · rw [List.nil_append]; exact app_new z E.zc news news.length 0 rfl (by simpa using h63) hbase
      · have := below_new w (.cells (news.toArray ++ Builtin.zeroCells z.cells (grownCap w news.length 0 e - news.length)) e)
        exact ⟨this.os, this.tape, this.output, this.size, fun k hk _ => this.block k hk⟩
    · by_cases hrm : xs.length + news.length ≤ cap
      · have hrow := setRow_heap w g cur (cur.toList.take xs.length ++ news ++ cur.toList.drop (xs.length + news.length)).toArray e (0, 0) hg
        have hsz : (cur.toList.take xs.length ++ news ++ cur.toList.drop (xs.length + news.length)).toArray.size = cur.size := by
          simp only [List.size_toArray, List.length_append, List.length_take, List.length_drop, Array.length_toList]; omega
        refine ⟨_, _, hroom g cap cur hpos rfl hg hrm (by omega), .inr ⟨g, cap, _, by rw [List.length_append], hbg, hrow, by rw [List.length_append]; exact hrm, by rw [hsz]; exact hcs, hcm, ?_⟩, ?_,
          ⟨rfl, rfl, rfl, by simp, fun k _ hk => setRow_other w g k _ (fun e => hk (by simp [Value.ownBlock, e]))⟩, .inl rfl⟩
        · rw [ht]; exact List.take_left
        · intro base' e' y ys hy hk
          rcases hy with hy | ⟨g', cap', cur', rfl, hb', hh', k1, k2, k3, k4⟩
          · exact .inl hy
          · by_cases eg : g' = g
            · subst eg
              rw [hg] at hh'
              injection hh' with hh'
              injection hh' with e1 e2
              subst e1 e2
              have hle := hk g' rfl rfl
              refine .inr ⟨g', cap', _, rfl, hb', hrow, k1, by rw [hsz]; exact k2, k3, ?_⟩
              rw [List.append_assoc, List.take_append_of_le_length (by have hcl : cur.toList.length = cur.size := Array.length_toList; rw [List.length_take]; omega), List.take_take, Nat.min_eq_left hle, k4]
            · exact .inr ⟨g', cap', cur', rfl, hb', (setRow_other w g g' _ eg).trans hh', k1, k2, k3, k4⟩
      · have holds : ∀ j u, xs[j]? = some u → w.cell? ((⟨g, 0, none⟩ : Addr).add j) = some u := fun j u hu => by
          rw [addr_add, Nat.zero_add, cell_of_row _ _ _ _ _ _ hg]; exact take_get ht hu
        have hn := app_new (w := w) (base := base) (e := e) z E.zc (xs ++ news) (xs.length + news.length) cap (by simp) h63 hbase
        rw [show (xs ++ news).toArray = xs.toArray ++ news.toArray by simp] at hn
        refine ⟨_, _, hgrow g cap hpos rfl holds (by omega), hn, keeps_below (below_new w _) _ _, ?_, .inr ⟨rfl, below_new w _⟩⟩
        · have := below_new w (.cells (xs.toArray ++ news.toArray ++ Builtin.zeroCells z.cells (grownCap w (xs.length + news.length) cap e - (xs.length + news.length))) e)
          exact ⟨this.os, this.tape, this.output, this.size, fun k hk _ => this.block k hk⟩

theorem zeroCells_one (z : Value) (hz : z.cells = #[z]) (n : Nat) : Builtin.zeroCells z.cells n = (List.replicate n z).toArray := by
  refine Array.ext (by simp [Builtin.zeroCells, hz]) fun i h1 h2 => ?_
  simp [Builtin.zeroCells, hz, Nat.mod_one]

/-- append(v, make([]T, n)...) -/
theorem run_app_zeros {P : Program} {t tn e : TypeId} {z : Value} {bytes : Nat} (E : Elem P t e z bytes) (htn : P.underlying tn = some (.int .i64)) (hzc : z.cells = #[z]) (hz1 : z.oneCell' = true) {w : World} {base : Nat} {v : Value} {xs : List Value} (ty : TypeId) (n : Nat)
    (hown : Own w base e v xs) (hlen : xs.length + n < 1000000000001) (hbase : base ≤ w.heap.size) :
    ∃ v' w', (Builtin.append_ #[t, tn] ty #[v, .int .i64 (n : Nat)]).run P w = .ok v' w' ∧ Own w' base e v' (xs ++ List.replicate n z) ∧ Keeps w w' v xs.length ∧ w.grownBy w' v.ownBlock ∧
      (v'.ownBlock = v.ownBlock ∨ (v'.ownBlock = some w.heap.size ∧ Below w.heap.size w w')) := by
  obtain ⟨i, hi, hz0, hi1, hz2⟩ := info_parts E.info
  have hbytes : (xs.length + n) * bytes ≤ 140737488355328 := Nat.le_trans (Nat.mul_le_mul (show xs.length + n ≤ 1000000000000 by omega) E.sm) (by decide)
  have hnb : n * bytes ≤ 140737488355328 := Nat.le_trans (Nat.mul_le_mul_right _ (by omega)) hbytes
  have hw : IntKind.i64.wrap (n : Int) = n := by rw [IntKind.wrap_i64]; omega
  have h48i : ¬ (281474976710656 < (n : Int) * (i.bytes : Int)) := by rw [hz2, ← Int.natCast_mul]; omega
  have hneg : ¬ ((n : Int) < 0) := by omega
  have hrl : (List.replicate n z).length = n := List.length_replicate
  refine app_core E _ hown (fun u hu => by rw [(List.mem_replicate.1 hu).2]; exact hz1) (by rw [hrl]; exact hlen) hbase ?_ ?_ ?_ ?_
  · intro h0
    have hn : n = 0 := by rw [← hrl, h0]; rfl
    subst hn
    have hw0 : IntKind.i64.wrap 0 = 0 := by rw [IntKind.wrap_i64]; rfl
    rcases hown.shape with ⟨rfl, rfl⟩ | ⟨g, cap, rfl, _, _, hc, _, _⟩
    · simp [Builtin.append_, run_underlying E.und, run_underlying htn, sizeOf, typeInfo, zeroValue, hi, asInt, asIntOf, hw0, Builtin.lenOf, Builtin.firstCells]
    · simp [Builtin.append_, run_underlying E.und, run_underlying htn, sizeOf, typeInfo, zeroValue, hi, asInt, asIntOf, hw0, Builtin.lenOf, Builtin.firstCells, hc, storeCells]
  · intro hp hv
    subst hv
    rw [hrl] at hp ⊢
    have := Lib.run_append_nil_zeros (P := P) w t tn ty e i z .i64 .i64 E.und htn hi hz0 n hp (by omega) (by omega) (by rw [hz2]; omega)
    rw [this, zeroCells_one z hzc n]
  · intro g cap cur hp hv hg hc hcs
    subst hv
    rw [hrl] at hp hc hcs ⊢
    have hst := run_storeCells_at P g xs.length e (List.replicate n z) 0 cur w hg (by simpa using hcs) (fun u hu => by rw [(List.mem_replicate.1 hu).2]; exact hz1)
    simp only [Nat.add_zero, hrl] at hst
    have hn0 : n ≠ 0 := by omega
    simp [Builtin.append_, run_underlying E.und, run_underlying htn, sizeOf, typeInfo, zeroValue, hi, hz0, hi1, asInt, asIntOf, hw, hneg, h48i, Builtin.lenOf, hc, hn0, zeroCells_one z hzc n, Addr.add_lit, hst]
  · intro g cap hp hv holds hc
    subst hv
    rw [hrl] at hp hc ⊢
    have hf := run_firstCells_some (P := P) w.drew i.size xs.length ⟨g, 0, none⟩ xs.length cap xs (by rw [hi1]; omega) (by simpa using holds)
    have := Lib.run_append_grow_zeros (P := P) w t tn ty e i z .i64 .i64 E.und htn hi hz0 _ xs.length cap xs hf n hp (by omega) hc (by omega) (by rw [hz2]; omega) (growslice_fits hc (by rw [hz2]; exact hbytes))
    rw [this, zeroCells_one z hzc n]

/-- append(v, s...), s a string -/
theorem run_app_string {P : Program} {t u e : TypeId} (E : Elem P t e (.int .u8 0) 1) (hu : P.underlying u = some .string) {w : World} {base : Nat} {v : Value} {xs : List Value} (ty : TypeId) (s : ByteArray)
    (hown : Own w base e v xs) (hlen : xs.length + s.size < 1000000000001) (hbase : base ≤ w.heap.size) :
    ∃ v' w', (Builtin.append_ #[t, u] ty #[v, .string s]).run P w = .ok v' w' ∧ Own w' base e v' (xs ++ bytesV s.data.toList) ∧ Keeps w w' v xs.length ∧ w.grownBy w' v.ownBlock ∧
      (v'.ownBlock = v.ownBlock ∨ (v'.ownBlock = some w.heap.size ∧ Below w.heap.size w w')) := by
  obtain ⟨i, hi, hz0, hi1, hz2⟩ := info_parts E.info
  have hsl : (bytesV s.data.toList).length = s.size := by rw [bytesV_length]; exact Array.length_toList
  have hcs : Lib.strCells s = bytesV s.data.toList := rfl
  refine app_core E _ hown (bytesV_one _) (by rw [hsl]; exact hlen) hbase ?_ ?_ ?_ ?_
  · intro h0
    have hn : s.size = 0 := by rw [← hsl, h0]; rfl
    have hd : s.data = #[] := Array.eq_empty_of_size_eq_zero hn
    rcases hown.shape with ⟨rfl, rfl⟩ | ⟨g, cap, rfl, _, _, hc, _, _⟩
    · simp [Builtin.append_, run_underlying E.und, run_underlying hu, sizeOf, typeInfo, hi, Builtin.lenOf, hn, Builtin.firstCells]
    · simp [Builtin.append_, run_underlying E.und, run_underlying hu, sizeOf, typeInfo, hi, Builtin.lenOf, hn, Builtin.firstCells, hc]
      simp [storeCells]
  · intro hp hv
    subst hv
    rw [hsl] at hp ⊢
    have := run_append_nil_string (P := P) w t u ty e i _ E.und hu hi hz0 s hp (by omega) (by rw [hz2]; omega)
    rw [this, show (bytesV s.data.toList).toArray = s.data.map (fun b => Value.int .u8 b.toNat) by apply Array.ext'; simp [bytesV]]
  · intro g cap cur hp hv hg hc hcs
    subst hv
    rw [hsl] at hp hc hcs ⊢
    exact Lib.run_append_room_string (P := P) w t u ty e i E.und hu hi hi1 g xs.length cap cur hg s hc hcs
  · intro g cap hp hv holds hc
    subst hv
    rw [hsl] at hp hc ⊢
    exact Lib.run_append_grow_string (P := P) w t u ty e i _ E.und hu hi hz0 ⟨g, 0, none⟩ xs.length cap xs (by rw [hi1]; omega) holds s hc (by omega) (growslice_fits hc (by rw [hz2]; omega))

/-- The same as laws of the walk. -/
theorem apZ {P : Program} {t tn e : TypeId} {z : Value} {bytes : Nat} (E : Elem P t e z bytes) (htn : P.underlying tn = some (.int .i64)) (hzc : z.cells = #[z]) (hz1 : z.oneCell' = true) {w : World} {base : Nat} {v : Value} {xs : List Value} {n : Nat}
    (hown : Own w base e v xs) (hlen : xs.length + n < 1000000000001) (hbase : base ≤ w.heap.size)
    {ops : Array Oper} {rest : List Oper} {o : Oper} {a : Act} {Q : Exit → Act → World → Prop} (hgd : o.guard = none) (x y : Operand)
    (ho : o.op = .call { callee := .builtin .append, args := #[x, y], argTypes := #[t, tn] }) (hx : a.eval x = v) (hy : a.eval y = .int .i64 (n : Nat))
    (h : ∀ v' w', Own w' base e v' (xs ++ List.replicate n z) → Keeps w w' v xs.length → (v'.ownBlock = v.ownBlock ∨ (v'.ownBlock = some w.heap.size ∧ Below w.heap.size w w')) → w.grownBy w' v.ownBlock → wpList P ops Q rest (a.put o.dst v') w') : wpList P ops Q (o :: rest) a w := by
  obtain ⟨v', w', hr, h2, h3, h4, h5⟩ := run_app_zeros E htn hzc hz1 o.type n hown hlen hbase
  exact Lib.wpList_append_run w hgd x y t tn ho _ _ hx hy v' w' hr (h v' w' h2 h3 h5 h4)
theorem apS {P : Program} {t u e : TypeId} (E : Elem P t e (.int .u8 0) 1) (hu : P.underlying u = some .string) {w : World} {base : Nat} {v : Value} {xs : List Value} {s : ByteArray}
    (hown : Own w base e v xs) (hlen : xs.length + s.size < 1000000000001) (hbase : base ≤ w.heap.size)
    {ops : Array Oper} {rest : List Oper} {o : Oper} {a : Act} {Q : Exit → Act → World → Prop} (hgd : o.guard = none) (x y : Operand)
    (ho : o.op = .call { callee := .builtin .append, args := #[x, y], argTypes := #[t, u] }) (hx : a.eval x = v) (hy : a.eval y = .string s)
    (h : ∀ v' w', Own w' base e v' (xs ++ bytesV s.data.toList) → Keeps w w' v xs.length → (v'.ownBlock = v.ownBlock ∨ (v'.ownBlock = some w.heap.size ∧ Below w.heap.size w w')) → w.grownBy w' v.ownBlock → wpList P ops Q rest (a.put o.dst v') w') : wpList P ops Q (o :: rest) a w := by
  obtain ⟨v', w', hr, h2, h3, h4, h5⟩ := run_app_string E hu o.type s hown hlen hbase
  exact Lib.wpList_append_run w hgd x y t u ho _ _ hx hy v' w' hr (h v' w' h2 h3 h5 h4)
end Go.Proofs.YtejmjjgbbojfbaaDoor
