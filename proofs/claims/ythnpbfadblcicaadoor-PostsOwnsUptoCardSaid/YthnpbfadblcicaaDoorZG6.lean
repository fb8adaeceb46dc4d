/- Merged: App, WPack. -/
import Derived.Test.YthnpbfadblcicaaDoorZLib
import Derived.Lib.AppendZerosOnto
import Derived.Lib.AppendStr
import Derived.Test.YthnpbfadblcicaaDoorZG1
import Derived.Test.YthnpbfadblcicaaDoorZG5
import Derived.Test.YthnpbfadblcicaaDoorZG2
import Derived.RegionTactic
import Derived.ChangeAlike
import Derived.BigRegion
import Derived.Outline
/- append of a make (a number stands in the place of a slice) and of a string, onto an owned list. No program occurs here. -/
namespace Go.Proofs.YthnpbfadblcicaaDoor
set_option linter.unusedVariables false
open Go.RowKit

/-- What an append leaves, whatever its source is, from its three ways. -/
theorem app_core {P : Program} {t e : TypeId} {z : Value} {bytes : Nat} (E : Elem P t e z bytes) {w : World} {base : Nat} {v : Value} {xs news : List Value} (run : Result Value)
    (hown : Own w base e v xs) (h1 : ∀ u ∈ news, u.oneCell' = true) (hlen : xs.length + news.length < 1000000000001) (hbase : base ≤ w.heap.size)
    (hnone : news = [] → run = .ok v w)
    (hnil : 0 < news.length → v = .slice none 0 0 → run = .ok (.slice (some ⟨w.heap.size, 0, none⟩) news.length (grownCap w news.length 0 e)) (w.drew.alloc (.cells (news.toArray ++ Builtin.zeroCells z.cells (grownCap w news.length 0 e - news.length)) e)))
    (hroom : ∀ g cap cur, 0 < news.length → v = .slice (some ⟨g, 0, none⟩) xs.length cap → w.heap[g]? = some (.cells cur e (0, 0)) → xs.length + news.length ≤ cap → xs.length + news.length ≤ cur.size →
      run = .ok (.slice (some ⟨g, 0, none⟩) (xs.length + news.length) cap) (w.setRow g (cur.toList.take xs.length ++ news ++ cur.toList.drop (xs.length + news.length)).toArray))
    (hgrow : ∀ g cap, 0 < news.length → v = .slice (some ⟨g, 0, none⟩) xs.length cap → (∀ j u, xs[j]? = some u → w.cell? ((⟨g, 0, none⟩ : Addr).add j) = some u) → cap < xs.length + news.length →
      run = .ok (.slice (some ⟨w.heap.size, 0, none⟩) (xs.length + news.length) (grownCap w (xs.length + news.length) cap e)) (w.drew.alloc (.cells (xs.toArray ++ news.toArray ++ Builtin.zeroCells z.cells (grownCap w (xs.length + news.length) cap e - (xs.length + news.length))) e))) :
    ∃ v' w', run = .ok v' w' ∧ Own w' base e v' (xs ++ news) ∧ Keeps w w' v xs.length ∧ w.grownBy w' v.ownBlock ∧
      (v'.ownBlock = v.ownBlock ∨ (v'.ownBlock = some w.heap.size ∧ Below w.heap.size w w')) := by
  have h63 : xs.length + news.length ≤ maxLen := by unfold maxLen; omega
  rcases Nat.eq_zero_or_pos news.length with h0 | hpos
  · have hn : news = [] := List.eq_nil_of_length_eq_zero h0
    exact ⟨v, w, hnone hn, by rw [hn]; simpa using hown, fun _ _ _ _ h _ => h, World.grownBy.refl w _, .inl rfl⟩
  · rcases hown with ⟨rfl, rfl⟩ | ⟨g, cap, cur, rfl, hbg, hg, hnc, hcs, hcm, ht⟩
    · refine ⟨_, _, hnil hpos rfl, ?_, keeps_below (below_new w _) _ _, ?_, .inr ⟨rfl, below_new w _⟩⟩
      · rw [List.nil_append]; exact app_new z E.zc news news.length 0 rfl (by simpa using h63) hbase
      · have := below_new w (.cells (news.toArray ++ Builtin.zeroCells z.cells (grownCap w news.length 0 e - news.length)) e)
        exact ⟨this.os, this.tape, this.output, this.size, fun k hk _ => this.block k hk⟩
    · by_cases hrm : xs.length + news.length ≤ cap
      · have hrow := setRow_heap w g cur (cur.toList.take xs.length ++ news ++ cur.toList.drop (xs.length + news.length)).toArray e (0, 0) hg
        have hsz : (cur.toList.take xs.length ++ news ++ cur.toList.drop (xs.length + news.length)).toArray.size = cur.size := by
          simp only [List.size_toArray, List.length_append, List.length_take, List.length_drop, Array.length_toList]; omega
        refine ⟨_, _, hroom g cap cur hpos rfl hg hrm (by omega), .inr ⟨g, cap, _, by rw [List.length_append], hbg, hrow, by rw [List.length_append]; exact hrm, by rw [hsz]; exact hcs, hcm, ?_⟩, ?_,
          ⟨rfl, rfl, rfl, by simp, fun k _ hk => setRow_other w g k _ (fun e => hk (by simp [Value.ownBlock, e]))⟩, .inl rfl⟩
        · rw [ht]; exact List.take_left
        · intro base' e' y ys hy hk
          rcases hy with hy | ⟨g', cap', cur', rfl, hb', hh', k1, k2, k3, k4⟩
          · exact .inl hy
          · by_cases eg : g' = g
            · subst eg
              rw [hg] at hh'
              injection hh' with hh'
              injection hh' with e1 e2
              subst e1 e2
              have hle := hk g' rfl rfl
              refine .inr ⟨g', cap', _, rfl, hb', hrow, k1, by rw [hsz]; exact k2, k3, ?_⟩
              rw [List.append_assoc, List.take_append_of_le_length (by have hcl : cur.toList.length = cur.size := Array.length_toList; rw [List.length_take]; omega), List.take_take, Nat.min_eq_left hle, k4]
            · exact .inr ⟨g', cap', cur', rfl, hb', (setRow_other w g g' _ eg).trans hh', k1, k2, k3, k4⟩
      · have holds : ∀ j u, xs[j]? = some u → w.cell? ((⟨g, 0, none⟩ : Addr).add j) = some u := fun j u hu => by
          rw [addr_add, Nat.zero_add, cell_of_row _ _ _ _ _ _ hg]; exact take_get ht hu
        have hn := app_new (w := w) (base := base) (e := e) z E.zc (xs ++ news) (xs.length + news.length) cap (by simp) h63 hbase
        rw [show (xs ++ news).toArray = xs.toArray ++ news.toArray by simp] at hn
        refine ⟨_, _, hgrow g cap hpos rfl holds (by omega), hn, keeps_below (below_new w _) _ _, ?_, .inr ⟨rfl, below_new w _⟩⟩
        · have := below_new w (.cells (xs.toArray ++ news.toArray ++ Builtin.zeroCells z.cells (grownCap w (xs.length + news.length) cap e - (xs.length + news.length))) e)
          exact ⟨this.os, this.tape, this.output, this.size, fun k hk _ => this.block k hk⟩

theorem zeroCells_one (z : Value) (hz : z.cells = #[z]) (n : Nat) : Builtin.zeroCells z.cells n = (List.replicate n z).toArray := by
  refine Array.ext (by simp [Builtin.zeroCells, hz]) fun i h1 h2 => ?_
  simp [Builtin.zeroCells, hz, Nat.mod_one]

/-- append(v, make([]T, n)...) -/
theorem run_app_zeros {P : Program} {t tn e : TypeId} {z : Value} {bytes : Nat} (E : Elem P t e z bytes) (htn : P.underlying tn = some (.int .i64)) (hzc : z.cells = #[z]) (hz1 : z.oneCell' = true) {w : World} {base : Nat} {v : Value} {xs : List Value} (ty : TypeId) (n : Nat)
    (hown : Own w base e v xs) (hlen : xs.length + n < 1000000000001) (hbase : base ≤ w.heap.size) :
    ∃ v' w', (Builtin.append_ #[t, tn] ty #[v, .int .i64 (n : Nat)]).run P w = .ok v' w' ∧ Own w' base e v' (xs ++ List.replicate n z) ∧ Keeps w w' v xs.length ∧ w.grownBy w' v.ownBlock ∧
      (v'.ownBlock = v.ownBlock ∨ (v'.ownBlock = some w.heap.size ∧ Below w.heap.size w w')) := by
  obtain ⟨i, hi, hz0, hi1, hz2⟩ := info_parts E.info
  have hbytes : (xs.length + n) * bytes ≤ 140737488355328 := Nat.le_trans (Nat.mul_le_mul (show xs.length + n ≤ 1000000000000 by omega) E.sm) (by decide)
  have hnb : n * bytes ≤ 140737488355328 := Nat.le_trans (Nat.mul_le_mul_right _ (by omega)) hbytes
  have hw : IntKind.i64.wrap (n : Int) = n := by rw [IntKind.wrap_i64]; omega
  have h48i : ¬ (281474976710656 < (n : Int) * (i.bytes : Int)) := by rw [hz2, ← Int.natCast_mul]; omega
  have hneg : ¬ ((n : Int) < 0) := by omega
  have hrl : (List.replicate n z).length = n := List.length_replicate
  refine app_core E _ hown (fun u hu => by rw [(List.mem_replicate.1 hu).2]; exact hz1) (by rw [hrl]; exact hlen) hbase ?_ ?_ ?_ ?_
  · intro h0
    have hn : n = 0 := by rw [← hrl, h0]; rfl
    subst hn
    have hw0 : IntKind.i64.wrap 0 = 0 := by rw [IntKind.wrap_i64]; rfl
    rcases hown.shape with ⟨rfl, rfl⟩ | ⟨g, cap, rfl, _, _, hc, _, _⟩
    · simp [Builtin.append_, run_underlying E.und, run_underlying htn, sizeOf, typeInfo, zeroValue, hi, asInt, asIntOf, hw0, Builtin.lenOf, Builtin.firstCells]
    · simp [Builtin.append_, run_underlying E.und, run_underlying htn, sizeOf, typeInfo, zeroValue, hi, asInt, asIntOf, hw0, Builtin.lenOf, Builtin.firstCells, hc, storeCells]
  · intro hp hv
    subst hv
    rw [hrl] at hp ⊢
    have := Lib.run_append_nil_zeros (P := P) w t tn ty e i z .i64 .i64 E.und htn hi hz0 n hp (by omega) (by omega) (by rw [hz2]; omega)
    rw [this, zeroCells_one z hzc n]
  · intro g cap cur hp hv hg hc hcs
    subst hv
    rw [hrl] at hp hc hcs ⊢
    have hst := run_storeCells_at P g xs.length e (List.replicate n z) 0 cur w hg (by simpa using hcs) (fun u hu => by rw [(List.mem_replicate.1 hu).2]; exact hz1)
    simp only [Nat.add_zero, hrl] at hst
    have hn0 : n ≠ 0 := by omega
    simp [Builtin.append_, run_underlying E.und, run_underlying htn, sizeOf, typeInfo, zeroValue, hi, hz0, hi1, asInt, asIntOf, hw, hneg, h48i, Builtin.lenOf, hc, hn0, zeroCells_one z hzc n, Addr.add_lit, hst]
  · intro g cap hp hv holds hc
    subst hv
    rw [hrl] at hp hc ⊢
    have hf := run_firstCells_some (P := P) w.drew i.size xs.length ⟨g, 0, none⟩ xs.length cap xs (by rw [hi1]; omega) (by simpa using holds)
    have := Lib.run_append_grow_zeros (P := P) w t tn ty e i z .i64 .i64 E.und htn hi hz0 _ xs.length cap xs hf n hp (by omega) hc (by omega) (by rw [hz2]; omega) (growslice_fits hc (by rw [hz2]; exact hbytes))
    rw [this, zeroCells_one z hzc n]

/-- append(v, s...), s a string -/
theorem run_app_string {P : Program} {t u e : TypeId} (E : Elem P t e (.int .u8 0) 1) (hu : P.underlying u = some .string) {w : World} {base : Nat} {v : Value} {xs : List Value} (ty : TypeId) (s : ByteArray)
    (hown : Own w base e v xs) (hlen : xs.length + s.size < 1000000000001) (hbase : base ≤ w.heap.size) :
    ∃ v' w', (Builtin.append_ #[t, u] ty #[v, .string s]).run P w = .ok v' w' ∧ Own w' base e v' (xs ++ bytesV s.data.toList) ∧ Keeps w w' v xs.length ∧ w.grownBy w' v.ownBlock ∧
      (v'.ownBlock = v.ownBlock ∨ (v'.ownBlock = some w.heap.size ∧ Below w.heap.size w w')) := by
  obtain ⟨i, hi, hz0, hi1, hz2⟩ := info_parts E.info
  have hsl : (bytesV s.data.toList).length = s.size := by rw [bytesV_length]; exact Array.length_toList
  have hcs : Lib.strCells s = bytesV s.data.toList := rfl
  refine app_core E _ hown (bytesV_one _) (by rw [hsl]; exact hlen) hbase ?_ ?_ ?_ ?_
  · intro h0
    have hn : s.size = 0 := by rw [← hsl, h0]; rfl
    have hd : s.data = #[] := Array.eq_empty_of_size_eq_zero hn
    rcases hown.shape with ⟨rfl, rfl⟩ | ⟨g, cap, rfl, _, _, hc, _, _⟩
    · simp [Builtin.append_, run_underlying E.und, run_underlying hu, sizeOf, typeInfo, hi, Builtin.lenOf, hn, Builtin.firstCells]
    · simp [Builtin.append_, run_underlying E.und, run_underlying hu, sizeOf, typeInfo, hi, Builtin.lenOf, hn, Builtin.firstCells, hc]
      simp [storeCells]
  · intro hp hv
    subst hv
    rw [hsl] at hp ⊢
    have := run_append_nil_string (P := P) w t u ty e i _ E.und hu hi hz0 s hp (by omega) (by rw [hz2]; omega)
    rw [this, show (bytesV s.data.toList).toArray = s.data.map (fun b => Value.int .u8 b.toNat) by apply Array.ext'; simp [bytesV]]
  · intro g cap cur hp hv hg hc hcs
    subst hv
    rw [hsl] at hp hc hcs ⊢
    exact Lib.run_append_room_string (P := P) w t u ty e i E.und hu hi hi1 g xs.length cap cur hg s hc hcs
  · intro g cap hp hv holds hc
    subst hv
    rw [hsl] at hp hc ⊢
    exact Lib.run_append_grow_string (P := P) w t u ty e i _ E.und hu hi hz0 ⟨g, 0, none⟩ xs.length cap xs (by rw [hi1]; omega) holds s hc (by omega) (growslice_fits hc (by rw [hz2]; omega))

/-- The same as laws of the walk. -/
theorem apZ {P : Program} {t tn e : TypeId} {z : Value} {bytes : Nat} (E : Elem P t e z bytes) (htn : P.underlying tn = some (.int .i64)) (hzc : z.cells = #[z]) (hz1 : z.oneCell' = true) {w : World} {base : Nat} {v : Value} {xs : List Value} {n : Nat}
    (hown : Own w base e v xs) (hlen : xs.length + n < 1000000000001) (hbase : base ≤ w.heap.size)
    {ops : Array Oper} {rest : List Oper} {o : Oper} {a : Act} {Q : Exit → Act → World → Prop} (hgd : o.guard = none) (x y : Operand)
    (ho : o.op = .call { callee := .builtin .append, args := #[x, y], argTypes := #[t, tn] }) (hx : a.eval x = v) (hy : a.eval y = .int .i64 (n : Nat))
    (h : ∀ v' w', Own w' base e v' (xs ++ List.replicate n z) → Keeps w w' v xs.length → (v'.ownBlock = v.ownBlock ∨ (v'.ownBlock = some w.heap.size ∧ Below w.heap.size w w')) → w.grownBy w' v.ownBlock → wpList P ops Q rest (a.put o.dst v') w') : wpList P ops Q (o :: rest) a w := by
  obtain ⟨v', w', hr, h2, h3, h4, h5⟩ := run_app_zeros E htn hzc hz1 o.type n hown hlen hbase
  exact Lib.wpList_append_run w hgd x y t tn ho _ _ hx hy v' w' hr (h v' w' h2 h3 h5 h4)
theorem apS {P : Program} {t u e : TypeId} (E : Elem P t e (.int .u8 0) 1) (hu : P.underlying u = some .string) {w : World} {base : Nat} {v : Value} {xs : List Value} {s : ByteArray}
    (hown : Own w base e v xs) (hlen : xs.length + s.size < 1000000000001) (hbase : base ≤ w.heap.size)
    {ops : Array Oper} {rest : List Oper} {o : Oper} {a : Act} {Q : Exit → Act → World → Prop} (hgd : o.guard = none) (x y : Operand)
    (ho : o.op = .call { callee := .builtin .append, args := #[x, y], argTypes := #[t, u] }) (hx : a.eval x = v) (hy : a.eval y = .string s)
    (h : ∀ v' w', Own w' base e v' (xs ++ bytesV s.data.toList) → Keeps w w' v xs.length → (v'.ownBlock = v.ownBlock ∨ (v'.ownBlock = some w.heap.size ∧ Below w.heap.size w w')) → w.grownBy w' v.ownBlock → wpList P ops Q rest (a.put o.dst v') w') : wpList P ops Q (o :: rest) a w := by
  obtain ⟨v', w', hr, h2, h3, h4, h5⟩ := run_app_string E hu o.type s hown hlen hbase
  exact Lib.wpList_append_run w hgd x y t u ho _ _ hx hy v' w' hr (h v' w' h2 h3 h5 h4)
end Go.Proofs.YthnpbfadblcicaaDoor

/- codec.Writer: Byte; bits.Len; put. -/
namespace Go.Proofs.YthnpbfadblcicaaDoor
set_option linter.unusedVariables false
open Go.ChangeShapes Go.WideShapes Go.ChangeAt Go.RowKit

theorem len_any (x : Int) (w : World) (h0 : 0 ≤ x) (h1 : x ≤ 18446744073709551615) :
    Calls Tryd.prog 67 #[.int .u64 x] w fun e w' => e = .returned (.int .i64 (Lib.bitLen x.toNat)) ∧ w = w' := by
  go_enter Tryd.func67, Tryd.ntmps67
  go_wp2_with fail
  refine (len64_any _ _ h0 h1).mono ?_
  rintro e w' ⟨rfl, rfl⟩
  go_wp2
  go_ret
  exact ⟨rfl, rfl⟩

theorem wbyte_any (w : World) (base p : Nat) (v : Value) (bs : List UInt8) (h : Wr w base p v bs) (hb : base ≤ w.heap.size) (hl : bs.length ≤ 100000000000) (x : UInt8) :
    Calls Tryd.prog 68 #[.pointer (some ⟨p, 0, none⟩), .int .u8 x.toNat] w fun e w' => e = .returned (.tuple #[]) ∧ ∃ v', Wr w' base p v' (bs ++ [x]) ∧ Wrote w w' p v v' := by
  have hl' : (bytesV bs).length < 1000000000000 := by rw [bytesV_length]; omega
  have hc := h.read
  have hown := h.own
  obtain ⟨av, nv, cv, rfl⟩ := own_sl hown
  go_enter Tryd.func68, Tryd.ntmps68
  go_wp2_with (at_builtin; with_reducible refine ap1' elBytes rfl hown hl' hb rfl _ _ rfl rfl rfl ?_)
  intro v1 w1 g1 g2 g3 g4
  obtain ⟨hc1, hf1⟩ := wr_cell h g4
  obtain ⟨a1, n1, c1, rfl⟩ := own_sl g1
  rw [← bytesV_snoc] at g1
  obtain ⟨hw2, hwr2⟩ := wr_app h g1 (g3.imp id (fun h => ⟨_, h.1, by omega⟩)) g4
  go_wp2
  go_end0
  exact ⟨rfl, _, hw2, hwr2⟩

theorem wrap64_mod (y : Int) : wrap64 y % 256 = y % 256 := by simp only [wrap64]; omega
theorem natMod256 (a : Nat) : (a : Int) % 256 = ((a % 256 : Nat) : Int) := by omega
theorem u8_val (n : Nat) (h : n < 256) : (((UInt8.ofNat n).toNat : Nat) : Int) = (n : Int) := by rw [u8_ofNat]; omega
/-- Byte j of the number M. -/
def byN (M j : Nat) : Nat := M / 256 ^ j % 256
theorem byN_lt (M j : Nat) : byN M j < 256 := Nat.mod_lt _ (by decide)

set_option maxRecDepth 100000 in
set_option maxHeartbeats 1000000 in
theorem wput_any (w : World) (base g c : Nat) (pre cs : List UInt8) (L C at_ wd x F S : Nat) (hF : pre.length = F) (hS : cs.length = S) (hown : Own w base 5 (.slice (some ⟨g, 0, none⟩) L C) (bytesV (pre ++ cs))) (hM : leN cs < 2 ^ at_) (hx : x < 2 ^ wd) (hw63 : wd ≤ 63) (hsz : at_ + wd ≤ 8 * cs.length) (hlen : pre.length + cs.length ≤ 100000000000) :
    Calls Tryd.prog 69 #[.slice (some ⟨g, F, none⟩) S c, .int .i64 at_, .int .i64 wd, .int .i64 x] w fun e w' => e = .returned (.tuple #[]) ∧ Own w' base 5 (.slice (some ⟨g, 0, none⟩) L C) (bytesV (pre ++ leB cs.length (leN cs + x * 2 ^ at_))) ∧ Eff (· = g) w w' := by
  subst hF hS
  have hM0 := Lib.hid hM
  clear hM
  go_enter Tryd.func69, Tryd.ntmps69
  go_wp2
  go_loopw [8] (fun s wr => ∃ d : Nat, s = .int .i64 d ∧ d ≤ 71 ∧ Own wr base 5 (.slice (some ⟨g, 0, none⟩) L C) (bytesV (pre ++ leB cs.length (leN cs + x % 2 ^ d * 2 ^ at_))) ∧ Eff (· = g) w wr) (fun s _ => 71 - (intOf s).toNat)
  case atStart => exact ⟨0, rfl, by omega, by simpa [Nat.mod_one, leB_leN] using hown, Eff.refl _ _⟩
  case round =>
    obtain ⟨d, rfl, hd, ho, he⟩ := hrel
    obtain ⟨j, k, hk, hjk⟩ : ∃ j k : Nat, k < 8 ∧ at_ + d = 8 * j + k := ⟨(at_ + d) / 8, (at_ + d) % 8, by omega, by omega⟩
    by_cases hlt : d < wd
    · have hj : j < cs.length := by omega
      have hget : (bytesV (pre ++ leB cs.length (leN cs + x % 2 ^ d * 2 ^ at_)))[pre.length + j]? = some (.int .u8 ((UInt8.ofNat ((leN cs + x % 2 ^ d * 2 ^ at_) / 256 ^ j % 256)).toNat : Nat)) := by
        unfold bytesV
        rw [List.getElem?_map, List.getElem?_append_right (by omega), Nat.add_sub_cancel_left, leB_get _ _ _ hj]; rfl
      have hc := ho.get hget
      have hfz := ho.frozen (pre.length + j)
      obtain ⟨m, hm⟩ : ∃ m, (leN cs + x % 2 ^ d * 2 ^ at_) / 256 ^ j % 256 = m := ⟨_, rfl⟩
      have hm2 : m < 256 := by rw [← hm]; exact Nat.mod_lt _ (by decide)
      rw [hm] at hc
      rw [show ((UInt8.ofNat m).toNat : Nat) = m by simp; omega] at hc
      have HM := Lib.hid hm
      have hset := ho.set (pre.length + j) (.int .u8 ((m ||| (x / 2 ^ d * 2 ^ k % 256) : Nat) : Int))
      have HS := Lib.hid hset
      have he2 := he.setCell (p := ⟨g, pre.length + j, none⟩) (fun _ => rfl) (.int .u8 ((m ||| (x / 2 ^ d * 2 ^ k % 256) : Nat) : Int))
      have q1 : ((at_ : Int) + d) % 8 = k := by omega
      have q2 : ((at_ : Int) + d) / 8 = j := by omega
      clear hget hm hset
      go_wp2
      go_region
      go_wp2
      go_roundw
      case rel =>
        have e1 : ((x : Int) / 2 ^ d * 2 ^ k) = ((x / 2 ^ d * 2 ^ k : Nat) : Int) := by simp
        have e2 : bits .or .u8 (m : Int) (wrap64 ((x : Int) / 2 ^ d * 2 ^ k) % 256) = ((m ||| (x / 2 ^ d * 2 ^ k % 256) : Nat) : Int) := by
          rw [e1, wrap64_mod, natMod256, u8_or_nat _ _ hm2 (Nat.mod_lt _ (by decide))]
        rw [e2]
        refine ⟨d + (8 - k), by go_num, by omega, ?_, he2.drew⟩
        have hM2 := put_step (leN cs) x at_ d k j hM0.out hjk hk
        rw [hM2, leB_or _ _ _ _ (Nat.mod_lt _ (by decide)) hj, HM.out]
        refine Own.drew (own_to HS.out ?_)
        unfold bytesV
        rw [List.map_append, List.map_append, List.set_append, if_neg (by simp), List.length_map, Nat.add_sub_cancel_left, List.map_set]
        congr 3
        have h8 : (m ||| (x / 2 ^ d * 2 ^ k % 256)) < 2 ^ 8 := Nat.or_lt_two_pow hm2 (Nat.mod_lt _ (by decide))
        exact (u8_val _ h8).symm
      case measure => simp [intOf]; omega
    · have hxd : x % 2 ^ d = x := Nat.mod_eq_of_lt (Nat.lt_of_lt_of_le hx (Nat.pow_le_pow_right (by decide) (by omega)))
      rw [hxd] at ho
      clear hxd
      go_wp2
      go_end0
      exact ⟨rfl, ho, he⟩
/-- Of a number of no bits nothing is laid. -/
theorem wput_none (w : World) (v : Value) (at_ wd x : Nat) (h : wd ≤ 0) :
    Calls Tryd.prog 69 #[v, .int .i64 at_, .int .i64 wd, .int .i64 x] w fun e w' => e = .returned (.tuple #[]) ∧ w = w' := by
  go_enter Tryd.func69, Tryd.ntmps69
  go_wp2
  go_loopw [8] (fun s wr => s = .int .i64 0 ∧ w = wr) (fun s _ => 0)
  case atStart => exact ⟨rfl, rfl⟩
  case round =>
    obtain ⟨rfl, rfl⟩ := hrel
    go_wp2
    go_end0
    exact ⟨rfl, rfl⟩
end Go.Proofs.YthnpbfadblcicaaDoor
