/- codec.Writer: its memory; NewWriter, Uvarint, Len, Reset. -/
import Derived.Test.YthnpbfadblcicaaDoorZEl
namespace Go.Proofs.YthnpbfadblcicaaDoor
set_option linter.unusedVariables false
open Go.ChangeShapes Go.WideShapes Go.ChangeAt Go.RowKit

/-- A Writer at block p that holds bs. -/
structure Wr (w : World) (base p : Nat) (v : Value) (bs : List UInt8) : Prop where
  blk : w.heap[p]? = some (.cells #[v] 100 (0, 0))
  hp : base ≤ p
  own : Own w base 5 v (bytesV bs)
/-- The blocks of a Writer. -/
def WrB (p : Nat) (v : Value) (k : Nat) : Prop := k = p ∨ v.ownBlock = some k
/-- v' lies where v lay, or in new memory. -/
def Fresh (n : Nat) (v v' : Value) : Prop := ∀ k, v'.ownBlock = some k → v.ownBlock = some k ∨ n ≤ k
theorem Fresh.refl (n : Nat) (v : Value) : Fresh n v v := fun _ h => .inl h
theorem Fresh.trans {n m : Nat} {a b c : Value} (h : Fresh n a b) (k : Fresh m b c) (hm : n ≤ m) : Fresh n a c := fun i hi => (k i hi).elim (fun h2 => h i h2) (fun h2 => .inr (by omega))
/-- From w to w' a Writer at p went from v to v': nothing else has turned. -/
structure Wrote (w w' : World) (p : Nat) (v v' : Value) : Prop where
  eff : Eff (WrB p v) w w'
  fresh : Fresh w.heap.size v v'
theorem Wrote.refl (w : World) (p : Nat) (v : Value) : Wrote w w p v v := ⟨Eff.refl _ _, Fresh.refl _ _⟩
theorem Wrote.trans {a b c : World} {p : Nat} {u v x : Value} (h : Wrote a b p u v) (k : Wrote b c p v x) : Wrote a c p u x :=
  ⟨h.eff.trans k.eff (fun i hi hlt => by
    rcases hi with hi | hi
    · exact .inl hi
    · rcases h.fresh i hi with h2 | h2
      · exact .inr h2
      · omega), h.fresh.trans k.fresh h.eff.size⟩
theorem Wrote.drewN {a b : World} {p : Nat} {u v : Value} (h : Wrote a b p u v) (d : Nat) : Wrote a (b.drewN d) p u v := ⟨h.eff.drewN d, h.fresh⟩
theorem Wr.drewN {w : World} {base p : Nat} {v : Value} {bs : List UInt8} (h : Wr w base p v bs) (d : Nat) : Wr (w.drewN d) base p v bs := ⟨h.blk, h.hp, h.own.drewN d⟩
theorem Wr.eff {F : Nat → Prop} {w w' : World} {base p : Nat} {v : Value} {bs : List UInt8} (h : Wr w base p v bs) (e : Eff F w w') (hF : ∀ k, WrB p v k → ¬ F k) : Wr w' base p v bs :=
  ⟨(e.block p (lt_of_heap h.blk) (hF p (.inl rfl))).trans h.blk, h.hp, h.own.eff e (fun k hk => hF k (.inr hk))⟩
theorem Wr.ge {w : World} {base p : Nat} {v : Value} {bs : List UInt8} (h : Wr w base p v bs) : ∀ k, WrB p v k → base ≤ k ∧ k < w.heap.size := by
  rintro k (rfl | hk)
  · exact ⟨h.hp, lt_of_heap h.blk⟩
  · exact h.own.lt k hk
theorem Wrote.below {w w' : World} {base p : Nat} {v v' : Value} {bs : List UInt8} (h : Wrote w w' p v v') (hw : Wr w base p v bs) (hb : base ≤ w.heap.size) : Below base w w' := h.eff.below (fun k hk => (hw.ge k hk).1) hb
theorem Wr.read {w : World} {base p : Nat} {v : Value} {bs : List UInt8} (h : Wr w base p v bs) : w.cell? ⟨p, 0, none⟩ = some v := blk_cell h.blk 0

/-- Behind an append to a Writer's bytes and the store of the outcome. -/
theorem wr_app {w w1 : World} {base p : Nat} {v v1 : Value} {bs bs1 : List UInt8} (h : Wr w base p v bs) (g1 : Own w1 base 5 v1 (bytesV bs1)) (g3 : v1.ownBlock = v.ownBlock ∨ ∃ k, v1.ownBlock = some k ∧ w.heap.size ≤ k) (g4 : w.grownBy w1 v.ownBlock) :
    Wr (w1.setCell ⟨p, 0, none⟩ v1) base p v1 bs1 ∧ Wrote w (w1.setCell ⟨p, 0, none⟩ v1) p v v1 := by
  have hp1 : w1.heap[p]? = some (.cells #[v] 100 (0, 0)) := (g4.block _ (lt_of_heap h.blk) (fun e => h.own.ne_type h.blk (by decide) e.symm)).trans h.blk
  refine ⟨⟨blk_set hp1 0 v1, h.hp, g1.setOther (g1.ne_type hp1 (by decide)) v1⟩, ⟨((Eff.refl _ _).grown g4 (fun k hk _ => .inr hk)).setCell (p := ⟨p, 0, none⟩) (fun _ => .inl rfl) _, ?_⟩⟩
  intro k hk
  rcases g3 with g3 | ⟨j, g3, hj⟩
  · exact .inl (g3 ▸ hk)
  · rw [g3] at hk; injection hk with hk; exact .inr (by omega)
theorem wr_cell {w w1 : World} {base p : Nat} {v : Value} {bs : List UInt8} (h : Wr w base p v bs) (g4 : w.grownBy w1 v.ownBlock) : w1.cell? ⟨p, 0, none⟩ = some v ∧ w1.frozen? ⟨p, 0, none⟩ = false := by
  have hp1 : w1.heap[p]? = some (.cells #[v] 100 (0, 0)) := (g4.block _ (lt_of_heap h.blk) (fun e => h.own.ne_type h.blk (by decide) e.symm)).trans h.blk
  exact ⟨blk_cell hp1 0, blk_frozen hp1 0⟩

theorem nw_any (w : World) : Calls Tryd.prog 31 #[] w fun e w' => e = .returned (.pointer (some ⟨w.heap.size, 0, none⟩)) ∧ w' = w.alloc (.cells #[.slice none 0 0] 100) := by
  go_enter Tryd.func31, Tryd.ntmps31
  go_wp2
  go_ret
  exact ⟨rfl, rfl⟩
theorem wr_new (w : World) : Wr (w.alloc (.cells #[.slice none 0 0] 100)) w.heap.size w.heap.size (.slice none 0 0) [] := ⟨heap_alloc_new w _, Nat.le_refl _, own_nil _ _ _⟩

set_option maxRecDepth 100000 in
theorem or128 (m : Nat) : bits .or .u8 ((m : Int) % 256) 128 = ((UInt8.ofNat (128 + m % 128)).toNat : Int) := by
  have k : ∀ x, x < 256 → x ||| 128 = 128 + x % 128 := by decide
  rw [show (m : Int) % 256 = ((m % 256 : Nat) : Int) by omega, show (128 : Int) = ((128 : Nat) : Int) from rfl, u8_or_nat _ _ (by omega) (by decide), k _ (by omega), u8_ofNat]
  omega

set_option maxRecDepth 100000 in
set_option maxHeartbeats 1000000 in
theorem wuv_any (w : World) (base p : Nat) (v : Value) (bs : List UInt8) (h : Wr w base p v bs) (hb : base ≤ w.heap.size) (hl : bs.length ≤ 100000000000) (n : Nat) (hn : (n : Int) ≤ 18446744073709551615) :
    Calls Tryd.prog 32 #[.pointer (some ⟨p, 0, none⟩), .int .u64 n] w fun e w' => e = .returned (.tuple #[]) ∧ ∃ v', Wr w' base p v' (bs ++ uvar n) ∧ Wrote w w' p v v' := by
  have hN : (uvar n).length ≤ 10 := (uvar_le n (by omega)).2
  go_enter Tryd.func32, Tryd.ntmps32
  go_wp2
  go_loopw [1] (fun u wr => ∃ (m : Nat) (v' : Value) (acc : List UInt8), (m : Int) ≤ 18446744073709551615 ∧ u = .int .u64 m ∧ Wr wr base p v' (bs ++ acc) ∧ acc ++ uvar m = uvar n ∧ Wrote w wr p v v') (fun u _ => (intOf u).toNat)
  case atStart => exact ⟨n, v, [], hn, rfl, by simpa using h, rfl, Wrote.refl _ _ _⟩
  case round =>
    obtain ⟨m, v', acc, hm, rfl, hw, hacc, hwr⟩ := hrel
    have hla : acc.length + 1 ≤ 10 := by
      have h1 := congrArg List.length hacc
      have := (uvar_le m (by omega)).1
      simp at h1; omega
    have HA := Lib.hid hacc; clear hacc
    have hb0 := Nat.le_trans hb hwr.eff.size
    have hl' : (bytesV (bs ++ acc)).length < 1000000000000 := by rw [bytesV_length, List.length_append]; omega
    have hc := hw.read
    have hown := hw.own
    obtain ⟨av, nv, cv, rfl⟩ := own_sl hown
    by_cases h128 : 128 ≤ (m : Int)
    · go_wp2_with (at_builtin; with_reducible refine ap1' elBytes rfl hown hl' hb0 rfl _ _ rfl rfl rfl ?_)
      intro v1 w1 g1 g2 g3 g4
      obtain ⟨hc1, hf1⟩ := wr_cell hw g4
      obtain ⟨a1, n1, c1, rfl⟩ := own_sl g1
      have g1' : Own w1 base 5 (.slice a1 n1 c1) (bytesV (bs ++ (acc ++ [UInt8.ofNat (128 + m % 128)]))) := by
        rw [← List.append_assoc, bytesV_snoc, ← or128]; exact g1
      obtain ⟨hw2, hwr2⟩ := wr_app hw g1' (g3.imp id (fun h => ⟨_, h.1, by omega⟩)) g4
      have HW := Lib.hid hw2
      have HR := Lib.hid (hwr.trans hwr2)
      clear g1 g1' g2 g3 g4 hw2 hwr2 hw hwr hown
      go_wp2
      go_roundw
      case rel =>
        refine ⟨m / 128, _, acc ++ [UInt8.ofNat (128 + m % 128)], by omega, by go_num, HW.out, ?_, HR.out⟩
        rw [← HA.out, uvar_big (n := m) (by omega)]; simp
      case measure => simp [intOf]; omega
    · go_wp2_with (at_builtin; with_reducible refine ap1' elBytes rfl hown hl' hb0 rfl _ _ rfl rfl rfl ?_)
      intro v1 w1 g1 g2 g3 g4
      obtain ⟨hc1, hf1⟩ := wr_cell hw g4
      obtain ⟨a1, n1, c1, rfl⟩ := own_sl g1
      have g1' : Own w1 base 5 (.slice a1 n1 c1) (bytesV (bs ++ uvar n)) := by
        rw [← HA.out, ← List.append_assoc, uvar_small (n := m) (by omega), bytesV_snoc]
        exact own_last g1 (by rw [u8_ofNat]; omega)
      obtain ⟨hw2, hwr2⟩ := wr_app hw g1' (g3.imp id (fun h => ⟨_, h.1, by omega⟩)) g4
      go_wp2
      go_end0
      exact ⟨rfl, _, hw2, hwr.trans hwr2⟩
end Go.Proofs.YthnpbfadblcicaaDoor
