/- Merged: Err, El, Writer, WList. -/
import Derived.Test.YthnpbfadblcicaaDoorZLib
import Derived.Test.YthnpbfadblcicaaDoorProg
import Derived.Stop.LaidErr
import Derived.LaidEql
import Derived.Lay
import Derived.LaidHandle
import Derived.Deep.DeepHandedRow
/- Sentinel errors: what a row's list gives; a world for the witness. -/
namespace Go.Proofs.YthnpbfadblcicaaDoor
set_option linter.unusedVariables false
open Go.ChangeShapes Go.WideShapes Go.ChangeAt Go.RowKit

theorem nameES : "*" ++ "errors.errorString" = "*errors.errorString" := by decide
theorem rowES (u : TypeId) (h : Tryd.prog.typeName? 3 u = some "*errors.errorString") : u = 137 :=
  typeName_ptr_named (nm := "errors.errorString") (by rw [nameES]; kernel_rfl) (by kernel_rfl) (by decide) u (by rw [nameES]; exact h)
theorem cellsES : Tryd.prog.cellsOf 153 = 1 := by kernel_rfl
theorem cellsStr : Tryd.prog.cellsOf 9 = 1 := by kernel_rfl

/-- An error as errors.New makes it. -/
def errD (text : List UInt8) : DataW Unit := .iface "*errors.errorString" (.ptr (.agg [.lit (.string text)]))
/-- The variable g holds the sentinel at a. -/
def ErrAt (W : World) (g : Nat) (a : Addr) : Prop := W.cell? ⟨g, 0, none⟩ = some (.iface 137 (.pointer (some a))) ∧ ∃ c t, W.heap[a.block]? = some (.cells c t (0, 0))
def Laid (x : String × List UInt8) : String × DataW Unit := (x.1, errD x.2)
set_option maxRecDepth 100000 in
theorem laid_errs {W : World} : ∀ (L : List (String × List UInt8)) (ps : List MemPlace), DataW.LaidVars Tryd.prog W (L.map Laid) ps →
    (∀ b off, MemPlace.cell b off ∈ ps → (∃ c t, W.heap[b]? = some (.cells c t (0, 0))) ∧ ∀ u v, W.cell? ⟨b, off, none⟩ = some (.iface u v) → Value.okWide Tryd.prog W .any 0 u v) →
    (∀ x ∈ L, ∀ g, Tryd.prog.globalNamed x.1 = some g → (Tryd.prog.globals[g]?).map (·.type) = some 26) →
    ∃ al : List Addr, al.length = L.length ∧ (∀ (i : Nat) (x : String × List UInt8) (a : Addr), L[i]? = some x → al[i]? = some a → ∃ g, Tryd.prog.globalNamed x.1 = some g ∧ ErrAt W g a) ∧
      (al.map fun a => MemPlace.cell a.block a.off).Sublist ps
  | [], ps, h, _, _ => ⟨[], rfl, fun i x a hx => by simp at hx, by simp⟩
  | x :: L, ps, h, hrows, hty => by
    obtain ⟨g, t, cs, fuel, p, q, hg, ht, hv, hd, hq, rfl⟩ := h
    have e := hty x List.mem_cons_self g hg
    obtain rfl := Option.some.inj (e.symm.trans ht)
    obtain ⟨l0⟩ := cs
    have ok0 : ∀ u v, l0 = [.iface u v] → Value.okWide Tryd.prog W .any 0 u v := fun u v e => by
      subst e
      exact (hrows g 0 (by simp [MemPlace.row])).2 u v (by simpa using World.var?_cell hg hv 0)
    obtain ⟨a0, s0, rfl, hc0, hs0, hz0, rfl⟩ := errorString_of_trod Tryd.underlying26 rowES Tryd.underlying137 Tryd.underlying153 rfl rfl Tryd.underlying9 cellsES cellsStr hd ok0
    obtain ⟨al, hl, h1, h2⟩ := laid_errs L q hq (fun b off hm => hrows b off (List.mem_append_right _ hm)) (fun y hy => hty y (List.mem_cons_of_mem _ hy))
    have hb := (hrows a0.block a0.off (by simp [MemPlace.row])).1
    refine ⟨a0 :: al, by simp [hl], ?_, ?_⟩
    · intro i y a hy ha
      cases i with
      | zero =>
        simp at hy ha
        subst hy ha
        exact ⟨g, hg, by simpa using World.var?_cell hg hv 0, hb⟩
      | succ i => exact h1 i y a (by simpa using hy) (by simpa using ha)
    · have e1 : (MemPlace.row a0 1) = [MemPlace.cell a0.block a0.off] := by simp [MemPlace.row]
      rw [List.map_cons, e1]
      have : (MemPlace.cell a0.block a0.off :: al.map fun a => MemPlace.cell a.block a.off) = [] ++ [MemPlace.cell a0.block a0.off] ++ al.map fun a => MemPlace.cell a.block a.off := rfl
      rw [this]
      exact ((List.nil_sublist _).append (List.Sublist.refl _)).append h2
/-- The address of the error of number k. -/
def errAddr : List Nat → List Addr → Nat → Addr
  | n :: ns, a :: al, k => if k = n then a else errAddr ns al k
  | _, _, _ => ⟨0, 0, none⟩
/-- EA k is the sentinel of number k, for each of ks; all are different. -/
structure Errs (W : World) (EA : Nat → Addr) (L : List (Nat × String)) : Prop where
  at_ : ∀ x ∈ L, ∃ g, Tryd.prog.globalNamed x.2 = some g ∧ ErrAt W g (EA x.1)
  ne : ∀ x ∈ L, ∀ y ∈ L, x.1 ≠ y.1 → EA x.1 ≠ EA y.1
theorem errAddr_get : ∀ (ns : List Nat) (al : List Addr), ns.Nodup → al.length = ns.length → ∀ (i k : Nat), ns[i]? = some k → al[i]? = some (errAddr ns al k)
  | [], al, _, hl, i, k, h => by simp at h
  | n :: ns, [], _, hl, i, k, h => by simp at hl
  | n :: ns, a :: al, hn, hl, 0, k, h => by
    simp at h; subst h; simp [errAddr]
  | n :: ns, a :: al, hn, hl, i + 1, k, h => by
    rw [List.nodup_cons] at hn
    have hk : ns[i]? = some k := by simpa using h
    have hne : k ≠ n := fun e => hn.1 (by rw [← e]; exact List.mem_of_getElem? hk)
    rw [List.getElem?_cons_succ, errAddr, if_neg hne]
    exact errAddr_get ns al hn.2 (by simpa using hl) i k hk
set_option maxRecDepth 100000 in
/-- From a row's list of sentinels. -/
theorem errs_of_laid {W : World} (L : List (Nat × String × List UInt8)) (hn : (L.map (·.1)).Nodup) (h : laidMet Tryd.prog ((L.map (·.2)).map Laid) W)
    (hty : (L.all fun x => decide ((Tryd.prog.globalNamed x.2.1).bind (fun g => (Tryd.prog.globals[g]?).map (·.type)) = some 26)) = true) :
    ∃ EA : Nat → Addr, Errs W EA (L.map fun x => (x.1, x.2.1)) := by
  obtain ⟨ps, hv, hnd, hrows⟩ := h
  obtain ⟨al, hl, h1, h2⟩ := laid_errs (L.map (·.2)) ps hv hrows (fun x hx g hg => by
    obtain ⟨y, hy, rfl⟩ := List.mem_map.1 hx
    have := of_decide_eq_true (List.all_eq_true.1 hty y hy)
    rw [hg] at this; exact this)
  have hd := List.Nodup.sublist h2 hnd
  refine ⟨errAddr (L.map (·.1)) al, ?_, ?_⟩
  · intro x hx
    obtain ⟨y, hy, rfl⟩ := List.mem_map.1 hx
    obtain ⟨i, hi⟩ := List.getElem?_of_mem hy
    have hk : (L.map (·.1))[i]? = some y.1 := by rw [List.getElem?_map, hi]; rfl
    have ha := errAddr_get (L.map (·.1)) al hn (by rw [hl]; simp) i _ hk
    exact h1 i y.2 _ (by rw [List.getElem?_map, hi]; rfl) ha
  · intro x hx y hy hne e
    obtain ⟨x', hx', rfl⟩ := List.mem_map.1 hx
    obtain ⟨y', hy', rfl⟩ := List.mem_map.1 hy
    obtain ⟨i, hi⟩ := List.getElem?_of_mem hx'
    obtain ⟨j, hj⟩ := List.getElem?_of_mem hy'
    have ki : (L.map (·.1))[i]? = some x'.1 := by rw [List.getElem?_map, hi]; rfl
    have kj : (L.map (·.1))[j]? = some y'.1 := by rw [List.getElem?_map, hj]; rfl
    have ai := errAddr_get (L.map (·.1)) al hn (by rw [hl]; simp) i _ ki
    have aj := errAddr_get (L.map (·.1)) al hn (by rw [hl]; simp) j _ kj
    simp only at e
    rw [e] at ai
    have hij : i = j := by
      have bi : (al.map fun a => MemPlace.cell a.block a.off)[i]? = some (MemPlace.cell (errAddr (L.map (·.1)) al y'.1).block (errAddr (L.map (·.1)) al y'.1).off) := by rw [List.getElem?_map, ai]; rfl
      have bj : (al.map fun a => MemPlace.cell a.block a.off)[j]? = some (MemPlace.cell (errAddr (L.map (·.1)) al y'.1).block (errAddr (L.map (·.1)) al y'.1).off) := by rw [List.getElem?_map, aj]; rfl
      obtain ⟨li, bi⟩ := List.getElem?_eq_some_iff.1 bi
      obtain ⟨lj, bj⟩ := List.getElem?_eq_some_iff.1 bj
      rcases Nat.lt_trichotomy i j with h3 | h3 | h3
      · exact absurd (bi.trans bj.symm) (List.pairwise_iff_getElem.1 hd i j li lj h3)
      · exact h3
      · exact absurd (bj.trans bi.symm) (List.pairwise_iff_getElem.1 hd j i lj li h3)
    subst hij
    rw [ki] at kj
    exact hne (Option.some.inj kj)
/-- The value of the error of number k. -/
def errV (EA : Nat → Addr) (k : Nat) : Value := .iface 137 (.pointer (some (EA k)))
theorem Errs.cell {W : World} {EA : Nat → Addr} {L : List (Nat × String)} (h : Errs W EA L) {k : Nat} {n : String} {g : Nat} (hm : (k, n) ∈ L) (hg : Tryd.prog.globalNamed n = some g) : W.cell? ⟨g, 0, none⟩ = some (errV EA k) := by
  obtain ⟨g', hg', h1, _⟩ := h.at_ _ hm
  obtain rfl := Option.some.inj (hg.symm.trans hg')
  exact h1
/-- 'There is an input that fits', at a world that is shaped. -/
theorem witness_row_shaped {H : Type} {enc : TypeId × Value → H} {C : Checked} {os : Os} {f : FuncId} {fn : Func} {s : OpenSpec} {conds : List PathCond} {apart : Bool} {laid : List (String × DataW Unit)} (w0 : World) (args : Array Value) (hos : w0.os = os)
    (hsh : (w0.forCall (fun _ _ => 0) ⟨#[], args, []⟩).Shaped C.prog)
    (hok : Input.okWideB C.prog (w0.forCall (fun _ _ => 0) ⟨#[], args, []⟩) f ⟨#[], args, []⟩ = true)
    (hrow : s.preRow enc C.prog fn conds apart laid (w0.forCall (fun _ _ => 0) ⟨#[], args, []⟩).memory args) :
    ∃ (w : World) (tape : Tape) (i : Input), w.os = os ∧ (w.forCall tape i).Shaped C.prog ∧ i.vars = [] ∧ Input.okWide C.prog (w.forCall tape i) .any w.heap.size f i ∧
      s.preRow enc C.prog fn conds apart laid (w.forCall tape i).memory i.args ∧ ({} : Assume).holds C.prog (lone (Frame.enter C.prog f i.args .normal) [] (w.forCall tape i)) :=
  ⟨w0, fun _ _ => 0, ⟨#[], args, []⟩, hos, hsh, (Input.okWide_of_okWideB (base := 0) hok).1, (Input.okWide_of_okWideB hok).2, hrow, by
    simp only [Assume.holds]
    exact ⟨by simp, by simp, fun _ => Modest.zero, by simp, by simp⟩⟩
end Go.Proofs.YthnpbfadblcicaaDoor

/- The slice type of bytes. -/
namespace Go.Proofs.YthnpbfadblcicaaDoor
theorem elBytes : Elem Tryd.prog 24 5 (.int .u8 0) 1 := ⟨Tryd.underlying24, by kernel_rfl, rfl, by decide⟩
end Go.Proofs.YthnpbfadblcicaaDoor

/- codec.Writer: its memory; NewWriter, Uvarint, Len, Reset. -/
namespace Go.Proofs.YthnpbfadblcicaaDoor
set_option linter.unusedVariables false
open Go.ChangeShapes Go.WideShapes Go.ChangeAt Go.RowKit

/-- A Writer at block p that holds bs. -/
structure Wr (w : World) (base p : Nat) (v : Value) (bs : List UInt8) : Prop where
  blk : w.heap[p]? = some (.cells #[v] 100 (0, 0))
  hp : base ≤ p
  own : Own w base 5 v (bytesV bs)
/-- The blocks of a Writer. -/
def WrB (p : Nat) (v : Value) (k : Nat) : Prop := k = p ∨ v.ownBlock = some k
/-- v' lies where v lay, or in new memory. -/
def Fresh (n : Nat) (v v' : Value) : Prop := ∀ k, v'.ownBlock = some k → v.ownBlock = some k ∨ n ≤ k
theorem Fresh.refl (n : Nat) (v : Value) : Fresh n v v := fun _ h => .inl h
theorem Fresh.trans {n m : Nat} {a b c : Value} (h : Fresh n a b) (k : Fresh m b c) (hm : n ≤ m) : Fresh n a c := fun i hi => (k i hi).elim (fun h2 => h i h2) (fun h2 => .inr (by omega))
/-- From w to w' a Writer at p went from v to v': nothing else has turned. -/
structure Wrote (w w' : World) (p : Nat) (v v' : Value) : Prop where
  eff : Eff (WrB p v) w w'
  fresh : Fresh w.heap.size v v'
theorem Wrote.refl (w : World) (p : Nat) (v : Value) : Wrote w w p v v := ⟨Eff.refl _ _, Fresh.refl _ _⟩
theorem Wrote.trans {a b c : World} {p : Nat} {u v x : Value} (h : Wrote a b p u v) (k : Wrote b c p v x) : Wrote a c p u x :=
  ⟨h.eff.trans k.eff (fun i hi hlt => by
    rcases hi with hi | hi
    · exact .inl hi
    · rcases h.fresh i hi with h2 | h2
      · exact .inr h2
      · omega), h.fresh.trans k.fresh h.eff.size⟩
theorem Wrote.drewN {a b : World} {p : Nat} {u v : Value} (h : Wrote a b p u v) (d : Nat) : Wrote a (b.drewN d) p u v := ⟨h.eff.drewN d, h.fresh⟩
theorem Wr.drewN {w : World} {base p : Nat} {v : Value} {bs : List UInt8} (h : Wr w base p v bs) (d : Nat) : Wr (w.drewN d) base p v bs := ⟨h.blk, h.hp, h.own.drewN d⟩
theorem Wr.eff {F : Nat → Prop} {w w' : World} {base p : Nat} {v : Value} {bs : List UInt8} (h : Wr w base p v bs) (e : Eff F w w') (hF : ∀ k, WrB p v k → ¬ F k) : Wr w' base p v bs :=
  ⟨(e.block p (lt_of_heap h.blk) (hF p (.inl rfl))).trans h.blk, h.hp, h.own.eff e (fun k hk => hF k (.inr hk))⟩
theorem Wr.ge {w : World} {base p : Nat} {v : Value} {bs : List UInt8} (h : Wr w base p v bs) : ∀ k, WrB p v k → base ≤ k ∧ k < w.heap.size := by
  rintro k (rfl | hk)
  · exact ⟨h.hp, lt_of_heap h.blk⟩
  · exact h.own.lt k hk
theorem Wrote.below {w w' : World} {base p : Nat} {v v' : Value} {bs : List UInt8} (h : Wrote w w' p v v') (hw : Wr w base p v bs) (hb : base ≤ w.heap.size) : Below base w w' := h.eff.below (fun k hk => (hw.ge k hk).1) hb
theorem Wr.read {w : World} {base p : Nat} {v : Value} {bs : List UInt8} (h : Wr w base p v bs) : w.cell? ⟨p, 0, none⟩ = some v := blk_cell h.blk 0

/-- Behind an append to a Writer's bytes and the store of the outcome. -/
theorem wr_app {w w1 : World} {base p : Nat} {v v1 : Value} {bs bs1 : List UInt8} (h : Wr w base p v bs) (g1 : Own w1 base 5 v1 (bytesV bs1)) (g3 : v1.ownBlock = v.ownBlock ∨ ∃ k, v1.ownBlock = some k ∧ w.heap.size ≤ k) (g4 : w.grownBy w1 v.ownBlock) :
    Wr (w1.setCell ⟨p, 0, none⟩ v1) base p v1 bs1 ∧ Wrote w (w1.setCell ⟨p, 0, none⟩ v1) p v v1 := by
  have hp1 : w1.heap[p]? = some (.cells #[v] 100 (0, 0)) := (g4.block _ (lt_of_heap h.blk) (fun e => h.own.ne_type h.blk (by decide) e.symm)).trans h.blk
  refine ⟨⟨blk_set hp1 0 v1, h.hp, g1.setOther (g1.ne_type hp1 (by decide)) v1⟩, ⟨((Eff.refl _ _).grown g4 (fun k hk _ => .inr hk)).setCell (p := ⟨p, 0, none⟩) (fun _ => .inl rfl) _, ?_⟩⟩
  intro k hk
  rcases g3 with g3 | ⟨j, g3, hj⟩
  · exact .inl (g3 ▸ hk)
  · rw [g3] at hk; injection hk with hk; exact .inr (by omega)
theorem wr_cell {w w1 : World} {base p : Nat} {v : Value} {bs : List UInt8} (h : Wr w base p v bs) (g4 : w.grownBy w1 v.ownBlock) : w1.cell? ⟨p, 0, none⟩ = some v ∧ w1.frozen? ⟨p, 0, none⟩ = false := by
  have hp1 : w1.heap[p]? = some (.cells #[v] 100 (0, 0)) := (g4.block _ (lt_of_heap h.blk) (fun e => h.own.ne_type h.blk (by decide) e.symm)).trans h.blk
  exact ⟨blk_cell hp1 0, blk_frozen hp1 0⟩

theorem nw_any (w : World) : Calls Tryd.prog 31 #[] w fun e w' => e = .returned (.pointer (some ⟨w.heap.size, 0, none⟩)) ∧ w' = w.alloc (.cells #[.slice none 0 0] 100) := by
  go_enter Tryd.func31, Tryd.ntmps31
  go_wp2
  go_ret
  exact ⟨rfl, rfl⟩
theorem wr_new (w : World) : Wr (w.alloc (.cells #[.slice none 0 0] 100)) w.heap.size w.heap.size (.slice none 0 0) [] := ⟨heap_alloc_new w _, Nat.le_refl _, own_nil _ _ _⟩

set_option maxRecDepth 100000 in
theorem or128 (m : Nat) : bits .or .u8 ((m : Int) % 256) 128 = ((UInt8.ofNat (128 + m % 128)).toNat : Int) := by
  have k : ∀ x, x < 256 → x ||| 128 = 128 + x % 128 := by decide
  rw [show (m : Int) % 256 = ((m % 256 : Nat) : Int) by omega, show (128 : Int) = ((128 : Nat) : Int) from rfl, u8_or_nat _ _ (by omega) (by decide), k _ (by omega), u8_ofNat]
  omega

set_option maxRecDepth 100000 in
set_option maxHeartbeats 1000000 in
theorem wuv_any (w : World) (base p : Nat) (v : Value) (bs : List UInt8) (h : Wr w base p v bs) (hb : base ≤ w.heap.size) (hl : bs.length ≤ 100000000000) (n : Nat) (hn : (n : Int) ≤ 18446744073709551615) :
    Calls Tryd.prog 32 #[.pointer (some ⟨p, 0, none⟩), .int .u64 n] w fun e w' => e = .returned (.tuple #[]) ∧ ∃ v', Wr w' base p v' (bs ++ uvar n) ∧ Wrote w w' p v v' := by
  have hN : (uvar n).length ≤ 10 := (uvar_le n (by omega)).2
  go_enter Tryd.func32, Tryd.ntmps32
  go_wp2
  go_loopw [1] (fun u wr => ∃ (m : Nat) (v' : Value) (acc : List UInt8), (m : Int) ≤ 18446744073709551615 ∧ u = .int .u64 m ∧ Wr wr base p v' (bs ++ acc) ∧ acc ++ uvar m = uvar n ∧ Wrote w wr p v v') (fun u _ => (intOf u).toNat)
  case atStart => exact ⟨n, v, [], hn, rfl, by simpa using h, rfl, Wrote.refl _ _ _⟩
  case round =>
    obtain ⟨m, v', acc, hm, rfl, hw, hacc, hwr⟩ := hrel
    have hla : acc.length + 1 ≤ 10 := by
      have h1 := congrArg List.length hacc
      have := (uvar_le m (by omega)).1
      simp at h1; omega
    have HA := Lib.hid hacc; clear hacc
    have hb0 := Nat.le_trans hb hwr.eff.size
    have hl' : (bytesV (bs ++ acc)).length < 1000000000000 := by rw [bytesV_length, List.length_append]; omega
    have hc := hw.read
    have hown := hw.own
    obtain ⟨av, nv, cv, rfl⟩ := own_sl hown
    by_cases h128 : 128 ≤ (m : Int)
    · go_wp2_with (at_builtin; with_reducible refine ap1' elBytes rfl hown hl' hb0 rfl _ _ rfl rfl rfl ?_)
      intro v1 w1 g1 g2 g3 g4
      obtain ⟨hc1, hf1⟩ := wr_cell hw g4
      obtain ⟨a1, n1, c1, rfl⟩ := own_sl g1
      have g1' : Own w1 base 5 (.slice a1 n1 c1) (bytesV (bs ++ (acc ++ [UInt8.ofNat (128 + m % 128)]))) := by
        rw [← List.append_assoc, bytesV_snoc, ← or128]; exact g1
      obtain ⟨hw2, hwr2⟩ := wr_app hw g1' (g3.imp id (fun h => ⟨_, h.1, by omega⟩)) g4
      have HW := Lib.hid hw2
      have HR := Lib.hid (hwr.trans hwr2)
      clear g1 g1' g2 g3 g4 hw2 hwr2 hw hwr hown
      go_wp2
      go_roundw
      case rel =>
        refine ⟨m / 128, _, acc ++ [UInt8.ofNat (128 + m % 128)], by omega, by go_num, HW.out, ?_, HR.out⟩
        rw [← HA.out, uvar_big (n := m) (by omega)]; simp
      case measure => simp [intOf]; omega
    · go_wp2_with (at_builtin; with_reducible refine ap1' elBytes rfl hown hl' hb0 rfl _ _ rfl rfl rfl ?_)
      intro v1 w1 g1 g2 g3 g4
      obtain ⟨hc1, hf1⟩ := wr_cell hw g4
      obtain ⟨a1, n1, c1, rfl⟩ := own_sl g1
      have g1' : Own w1 base 5 (.slice a1 n1 c1) (bytesV (bs ++ uvar n)) := by
        rw [← HA.out, ← List.append_assoc, uvar_small (n := m) (by omega), bytesV_snoc]
        exact own_last g1 (by rw [u8_ofNat]; omega)
      obtain ⟨hw2, hwr2⟩ := wr_app hw g1' (g3.imp id (fun h => ⟨_, h.1, by omega⟩)) g4
      go_wp2
      go_end0
      exact ⟨rfl, _, hw2, hwr.trans hwr2⟩
end Go.Proofs.YthnpbfadblcicaaDoor

/- codec.Writer: lists: anyBelow, Rising. -/
namespace Go.Proofs.YthnpbfadblcicaaDoor
set_option linter.unusedVariables false
open Go.ChangeShapes Go.WideShapes Go.ChangeAt Go.RowKit

/-- A list of ints as values; each fits. -/
def intL (l : List Int) : List Value := l.map fun z => Value.int .i64 z
theorem intL_length (l : List Int) : (intL l).length = l.length := by simp [intL]
theorem intL_get (l : List Int) (j : Nat) (h : j < l.length) : (intL l)[j]? = some (.int .i64 l[j]) := by simp [intL, h]
theorem elInts : Elem Tryd.prog 51 3 (.int .i64 0) 8 := ⟨Tryd.underlying51, by kernel_rfl, rfl, by decide⟩
theorem intL_append (a b : List Int) : intL (a ++ b) = intL a ++ intL b := by simp [intL]
theorem intL_one (l : List Int) : ∀ u ∈ intL l, u.oneCell' = true := by
  intro u hu
  obtain ⟨k, _, rfl⟩ := List.mem_map.1 hu
  rfl
def FitL (l : List Int) : Prop := ∀ z ∈ l, -9223372036854775808 ≤ z ∧ z ≤ 9223372036854775807
/-- A cell of a list that reads. -/
theorem rd_get {w : World} {a : Option Addr} {n c : Nat} {l : List Int} (h : Rd w (.slice a n c) (intL l)) : n = l.length ∧ (0 < l.length → ∃ b o, a = some ⟨b, o, none⟩ ∧ ∀ (j : Nat) (hj : j < l.length), w.cell? ⟨b, o + j, none⟩ = some (.int .i64 l[j])) := by
  obtain ⟨A, c', h, _, hg⟩ := h
  injection h with h1 h2 h3
  subst h1 h2 h3
  rw [intL_length] at hg ⊢
  refine ⟨rfl, fun h0 => ?_⟩
  obtain ⟨b, o, e, hg⟩ := hg h0
  exact ⟨b, o, e, fun j hj => hg j _ (intL_get l j hj)⟩

def anyNeg (l : List Int) : Bool := l.any fun z => decide (z < 0)

set_option maxRecDepth 100000 in
theorem anyb_any (w : World) (a : Option Addr) (n c : Nat) (l : List Int) (h : Rd w (.slice a n c) (intL l)) (hl : (l.length : Int) ≤ 9223372036854775807) :
    Calls Tryd.prog 66 #[.slice a n c] w fun e w' => e = .returned (.bool (anyNeg l)) ∧ w = w' := by
  obtain ⟨rfl, hg⟩ := rd_get h
  have HG := Lib.hid hg
  clear h hg
  go_enter Tryd.func66, Tryd.ntmps66
  go_wp2
  go_loopw [7] (fun s wr => ∃ i : Nat, s = .int .i64 i ∧ i ≤ l.length ∧ anyNeg (l.take i) = false ∧ w = wr) (fun s _ => l.length - (intOf s).toNat)
  case atStart => exact ⟨0, rfl, Nat.zero_le _, rfl, rfl⟩
  case round =>
    obtain ⟨i, rfl, hi, hno, rfl⟩ := hrel
    by_cases hlt : i < l.length
    · obtain ⟨b, o, rfl, hg⟩ := HG.out (by omega)
      have hc := hg i hlt
      obtain ⟨z, hz⟩ : ∃ z, l[i] = z := ⟨_, rfl⟩
      rw [hz] at hc
      have HZ := Lib.hid hz
      have HN := Lib.hid hno
      clear hg hz hno
      by_cases hn : z < 0
      · go_wp2
        go_ret
        refine ⟨ret_bool ?_, rfl⟩
        have : anyNeg l = true := List.any_eq_true.2 ⟨z, by rw [← HZ.out]; exact List.getElem_mem hlt, by simpa using hn⟩
        rw [this]
      · go_wp2
        go_roundw
        case rel =>
          refine ⟨i + 1, by go_num, by omega, ?_, by first | rfl | trivial⟩
          have h1 : l.take (i + 1) = l.take i ++ [z] := by rw [List.take_add_one, List.getElem?_eq_getElem hlt, HZ.out]; rfl
          rw [h1]
          have := HN.out
          unfold anyNeg at *
          rw [List.any_append, this]; simp; omega
        case measure => simp [intOf]; omega
    · obtain rfl : i = l.length := by omega
      rw [List.take_length] at hno
      go_wp2
      go_ret
      exact ⟨ret_bool hno.symm, rfl⟩

/-- Is each but the first greater than the one ahead of it? -/
def rises (l : List Int) : Prop := ∀ i, (h : i + 1 < l.length) → l[i] < l[i + 1]
/-- The steps of a rising list, each as a uvarint. -/
def gapsB : Int → List Int → List UInt8
  | _, [] => []
  | last, z :: r => uvar (z - last - 1).toNat ++ gapsB z r
def risB (l : List Int) : List UInt8 := uvar l.length ++ gapsB (-1) l

theorem gapsB_snoc (last : Int) (l : List Int) (z : Int) : gapsB last (l ++ [z]) = gapsB last l ++ uvar (z - (l.getLastD last) - 1).toNat := by
  induction l generalizing last with
  | nil => simp [gapsB]
  | cons y l ih =>
    rw [List.cons_append, gapsB, ih, gapsB, List.append_assoc]
    congr 2
    cases l <;> simp [List.getLastD]

theorem last_lt {l : List Int} (hn : anyNeg l = false) (hr : rises l) (i : Nat) (h : i < l.length) : -1 ≤ (l.take i).getLastD (-1) ∧ (l.take i).getLastD (-1) < l[i] := by
  have hneg : ∀ k, (hk : k < l.length) → 0 ≤ l[k] := fun k hk => by
    have := List.any_eq_false.1 hn l[k] (List.getElem_mem hk)
    simpa using this
  cases i with
  | zero => simp [List.getLastD]; have := hneg 0 h; omega
  | succ i =>
    have h1 : l.take (i + 1) = l.take i ++ [l[i]] := by rw [List.take_add_one, List.getElem?_eq_getElem (by omega)]; rfl
    rw [h1]
    have e : (l.take i ++ [l[i]]).getLastD (-1) = l[i] := List.getLastD_concat ..
    rw [e]
    have := hneg i (by omega)
    have := hr i h
    omega
theorem gapsB_le {l : List Int} (hf : FitL l) (last : Int) (h0 : -1 ≤ last) (hn : ∀ z ∈ l, 0 ≤ z) : (gapsB last l).length ≤ 10 * l.length := by
  induction l generalizing last with
  | nil => simp [gapsB]
  | cons z l ih =>
    rw [gapsB, List.length_append, List.length_cons]
    have h1 := ih (fun y hy => hf y (List.mem_cons_of_mem _ hy)) z (by have := hn z List.mem_cons_self; omega) (fun y hy => hn y (List.mem_cons_of_mem _ hy))
    have h2 := hf z List.mem_cons_self
    have h3 := (uvar_le (z - last - 1).toNat (by omega)).2
    omega

end Go.Proofs.YthnpbfadblcicaaDoor
