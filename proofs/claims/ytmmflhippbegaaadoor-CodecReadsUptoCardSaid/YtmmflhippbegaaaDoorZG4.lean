/- Merged: Open, OpenI, OpenO. -/
import Derived.Test.YtmmflhippbegaaaDoorRows
import Derived.Test.YtmmflhippbegaaaDoorZLib
import Derived.Deep.Slices
import Derived.ChangeSlices
import Derived.OpenShut
import Derived.Test.YtmmflhippbegaaaDoorZWList
import Derived.Test.YtmmflhippbegaaaDoorZOpV
import Derived.Deep.Fields
import Derived.ChangeSame
/- Arguments that are lists of bytes, and lists of such: opened; what the bound on the bulk gives. -/
namespace Go.Proofs.YtmmflhippbegaaaDoor
set_option linter.unusedVariables false
open Go.ChangeShapes Go.WideShapes Go.ChangeAt Go.RowKit

theorem bulk_append {H : Type} (l r : List (DataW H)) : Rows.uptoBulkAll (l ++ r) = Rows.uptoBulkAll l + Rows.uptoBulkAll r := by
  induction l with
  | nil => simp [Rows.uptoBulkAll]
  | cons x l ih => simp only [List.cons_append, Rows.uptoBulkAll, ih]; omega
theorem bulk_one {H : Type} (d : DataW H) : 1 ≤ Rows.uptoBulk d := by
  cases d with
  | lit l => cases l <;> simp [Rows.uptoBulk]
  | nil => simp [Rows.uptoBulk]
  | ptr d => simp [Rows.uptoBulk]
  | slice elems spare => simp [Rows.uptoBulk]
  | agg parts => simp [Rows.uptoBulk]
  | iface t d => simp [Rows.uptoBulk]
  | map entries => simp [Rows.uptoBulk]
  | held h => simp [Rows.uptoBulk]
theorem bulk_length {H : Type} (l : List (DataW H)) : l.length ≤ Rows.uptoBulkAll l := by
  induction l with
  | nil => simp [Rows.uptoBulkAll]
  | cons x r ih => have := bulk_one x; simp only [Rows.uptoBulkAll, List.length_cons]; omega

theorem fm_succ (B : Nat → List UInt8) (n : Nat) : (List.range (n + 1)).flatMap B = (List.range n).flatMap B ++ B n := by simp [List.range_succ, List.flatMap_append]
theorem fm_one (B : Nat → List UInt8) {k n : Nat} (h : k < n) : (B k).length ≤ ((List.range n).flatMap B).length := by
  induction n with
  | zero => omega
  | succ n ih =>
    rw [fm_succ, List.length_append]
    by_cases hk : k < n
    · have := ih hk; omega
    · have : k = n := by omega
      subst this; omega
theorem fm_congr {B D : Nat → List UInt8} {n : Nat} (h : ∀ k, k < n → B k = D k) : (List.range n).flatMap B = (List.range n).flatMap D := by
  induction n with
  | zero => rfl
  | succ n ih => rw [fm_succ, fm_succ, ih (fun k hk => h k (by omega)), h n (Nat.lt_succ_self n)]

section
variable {H : Type} {enc : TypeId × Value → H} {P : Program} {w : World} {base : Nat} {spare : Nat → Bool} {held : Bool} {fuel : Nat} {cs : List Value} {x : DataW H × List MemPlace}

theorem open_bytes {t e : TypeId} (ht : P.underlying t = some (.slice e)) (he : P.underlying e = some (.int .u8)) (hc : P.cellsOf e = 1) (h : DataW.trod enc P w base spare held fuel t cs = some x) :
    ∃ v bs, cs = [v] ∧ Rd w v (bytesV bs) ∧ bs.length + 1 ≤ Rows.uptoBulk x.1 := by
  rcases open_ints ht he hc h with ⟨rfl, rfl⟩ | ⟨a, len, cap, zs, rfl, hb, hl, hm, hz, rfl, hcell, hwf⟩
  · exact ⟨_, [], rfl, ⟨none, 0, rfl, Nat.le_refl _, fun h => by simp [bytesV] at h⟩, by simp [Rows.uptoBulk]⟩
  have hlz : len ≤ zs.length := by rw [hz]; split <;> omega
  refine ⟨_, (zs.take len).map (fun n => UInt8.ofNat n.toNat), rfl, ?_, ?_⟩
  · have hll : (bytesV ((zs.take len).map (fun n => UInt8.ofNat n.toNat))).length = len := by rw [bytesV_length, List.length_map, List.length_take]; omega
    refine ⟨some a, cap, by rw [hll], by rw [hll]; exact hl, fun h0 => ?_⟩
    rw [hll] at h0
    obtain ⟨b, o, rfl, hcc⟩ := ints_at hcell (by omega)
    refine ⟨b, o, rfl, fun j y hy => ?_⟩
    have hj : j < len := by have := (List.getElem?_eq_some_iff.1 hy).1; omega
    rw [← addr_add b o j, hcell j (by omega)]
    have hjz : j < zs.length := by omega
    have hw := bounds_u8 (hwf (zs[j]) (List.getElem_mem hjz))
    rw [← hy]
    simp [bytesV, List.getD, hj, hjz]
    omega
  · have h1 := bulk_length (lits (H := H) .u8 (zs.take len))
    simp only [Rows.uptoBulk]
    have h2 : (lits (H := H) .u8 (zs.take len)).length = len := by simp [lits]; omega
    rw [List.length_map, List.length_take]
    omega

/-- A list of lists of bytes: its values ls, the k-th reads B k; its bulk pays all of them. -/
theorem open_lists {t e q : TypeId} (ht : P.underlying t = some (.slice e)) (he : P.underlying e = some (.slice q)) (hq : P.underlying q = some (.int .u8)) (hc : P.cellsOf e = 1) (hcq : P.cellsOf q = 1) (h : DataW.trod enc P w base spare held fuel t cs = some x) :
    ∃ v ls, ∃ B : Nat → List UInt8, cs = [v] ∧ Rd w v ls ∧ (∀ k y, ls[k]? = some y → Rd w y (bytesV (B k))) ∧ (∀ k, ls.length ≤ k → B k = []) ∧ (∀ k, (B k).length ≤ Rows.uptoBulk x.1) ∧ ls.length + ((List.range ls.length).flatMap B).length ≤ Rows.uptoBulk x.1 := by
  rcases Go.Deep.open_slice1 ht hc h with ⟨rfl, rfl⟩ | ⟨a, len, cap, m, n, V, D, Pl, rfl, hb, hl, hm, hmm, rfl, hx⟩
  · exact ⟨_, [], fun _ => [], rfl, ⟨none, 0, rfl, Nat.le_refl _, fun h => by simp at h⟩, fun k y h => by simp at h, fun _ _ => rfl, fun _ => Nat.zero_le _, by simp⟩
  have hlm : len ≤ m := by rw [hmm]; split <;> omega
  obtain ⟨B0, hB0⟩ := Go.Deep.choose_lt (α := List UInt8) (n := len) (p := fun i bs => Rd w (V i) (bytesV bs) ∧ bs.length + 1 ≤ Rows.uptoBulk (D i)) (fun i hi => by
    obtain ⟨v, bs, hv, h1, h2⟩ := open_bytes he hq hcq (hx i (by omega)).2
    injection hv with hv _
    exact ⟨bs, by rw [hv]; exact h1, h2⟩)
  have hpay : ∀ k, k ≤ len → k + ((List.range k).flatMap B0).length ≤ Rows.uptoBulkAll ((List.range k).map D) := by
    intro k
    induction k with
    | zero => intro _; simp [Rows.uptoBulkAll]
    | succ k ih =>
      intro hk
      have h1 := ih (by omega)
      have h2 := (hB0 k (by omega)).2
      rw [List.range_succ, List.flatMap_append, List.map_append, bulk_append, List.length_append]
      simp only [List.flatMap_cons, List.flatMap_nil, List.append_nil, List.map_cons, List.map_nil, Rows.uptoBulkAll]
      omega
  have hone : ∀ k, k < len → (B0 k).length ≤ ((List.range len).flatMap B0).length := fun k hk => fm_one B0 hk
  have hfl : ((List.range len).flatMap fun k => if k < len then B0 k else []) = (List.range len).flatMap B0 := fm_congr fun k hk => if_pos hk
  have hp := hpay len (Nat.le_refl _)
  have hbk : Rows.uptoBulkAll ((List.range len).map D) ≤ Rows.uptoBulk (DataW.slice ((List.range len).map D) ((List.range (m - len)).map fun j => D (len + j))) := by simp only [Rows.uptoBulk]; omega
  refine ⟨_, (List.range len).map V, fun k => if k < len then B0 k else [], rfl, ⟨some a, cap, by simp, by simpa using hl, fun h0 => ?_⟩, fun k y hy => ?_, fun k hk => ?_, fun k => ?_, ?_⟩
  · have h00 := (hx 0 (by simp at h0; omega)).1
    obtain ⟨b, o, sp⟩ := a
    have hs : sp = none := by simpa [Addr.add] using World.cell?_spot h00
    subst hs
    refine ⟨b, o, rfl, fun j y hy => ?_⟩
    have hj : j < len := by have := (List.getElem?_eq_some_iff.1 hy).1; simpa using this
    have h2 := (hx j (by omega)).1
    rw [addr_add] at h2
    rw [h2, ← hy]; simp [hj]
  · have hj : k < len := by have := (List.getElem?_eq_some_iff.1 hy).1; simpa using this
    have hy' : y = V k := by rw [List.getElem?_map, List.getElem?_range hj] at hy; simpa using hy.symm
    dsimp only
    rw [if_pos hj, hy']; exact (hB0 k hj).1
  · simp at hk; exact if_neg (by omega)
  · dsimp only
    split
    · have := hone k (by assumption); exact Nat.le_trans (by omega) hbk
    · exact Nat.zero_le _
  · rw [List.length_map, List.length_range, hfl]; exact Nat.le_trans hp hbk
end
end Go.Proofs.YtmmflhippbegaaaDoor

/- Arguments that are lists of ints: opened. -/
namespace Go.Proofs.YtmmflhippbegaaaDoor
set_option linter.unusedVariables false
open Go.ChangeShapes Go.WideShapes Go.ChangeAt Go.RowKit
section
variable {H : Type} {enc : TypeId × Value → H} {P : Program} {w : World} {base : Nat} {spare : Nat → Bool} {held : Bool} {fuel : Nat} {cs : List Value} {x : DataW H × List MemPlace}
theorem open_intl {t e : TypeId} (ht : P.underlying t = some (.slice e)) (he : P.underlying e = some (.int .i64)) (hc : P.cellsOf e = 1) (h : DataW.trod enc P w base spare held fuel t cs = some x) :
    ∃ v l, cs = [v] ∧ Rd w v (intL l) ∧ FitL l ∧ l.length + 1 ≤ Rows.uptoBulk x.1 := by
  rcases open_ints ht he hc h with ⟨rfl, rfl⟩ | ⟨a, len, cap, zs, rfl, hb, hl, hm, hz, rfl, hcell, hwf⟩
  · exact ⟨_, [], rfl, ⟨none, 0, rfl, Nat.le_refl _, fun h => by simp [intL] at h⟩, fun z hz => (by simp at hz), by simp [Rows.uptoBulk]⟩
  have hlz : len ≤ zs.length := by rw [hz]; split <;> omega
  refine ⟨_, zs.take len, rfl, ?_, ?_, ?_⟩
  · have hll : (intL (zs.take len)).length = len := by rw [intL_length, List.length_take]; omega
    refine ⟨some a, cap, by rw [hll], by rw [hll]; exact hl, fun h0 => ?_⟩
    rw [hll] at h0
    obtain ⟨b, o, rfl, hcc⟩ := ints_at hcell (by omega)
    refine ⟨b, o, rfl, fun j y hy => ?_⟩
    have hj : j < len := by have := (List.getElem?_eq_some_iff.1 hy).1; omega
    rw [← addr_add b o j, hcell j (by omega)]
    have hjz : j < zs.length := by omega
    rw [← hy]
    simp [intL, List.getD, hj, hjz]
  · intro z hz
    have hw := bounds_i64 (hwf z (List.mem_of_mem_take hz))
    omega
  · have h1 := bulk_length (lits (H := H) .i64 (zs.take len))
    simp only [Rows.uptoBulk]
    have h2 : (lits (H := H) .i64 (zs.take len)).length = len := by simp [lits]; omega
    rw [List.length_take]
    omega
end
end Go.Proofs.YtmmflhippbegaaaDoor

/- An argument that is a list of Op: opened. -/
namespace Go.Proofs.YtmmflhippbegaaaDoor
set_option linter.unusedVariables false
open Go.ChangeShapes Go.WideShapes Go.ChangeAt Go.RowKit Go.Deep
theorem bulk_mem {H : Type} {d : DataW H} {l : List (DataW H)} (h : d ∈ l) : Rows.uptoBulk d ≤ Rows.uptoBulkAll l := by
  induction l with
  | nil => cases h
  | cons x r ih =>
    simp only [Rows.uptoBulkAll]
    rcases List.mem_cons.1 h with rfl | h
    · omega
    · have := ih h; omega
section
variable {H : Type} {enc : TypeId × Value → H} {P : Program} {w : World} {base : Nat} {spare : Nat → Bool} {held : Bool}
theorem open_slice_fields {t e : TypeId} {fs : Array Field} {fuel : Nat} {cs : List Value} {x : DataW H × List MemPlace} (ht : P.underlying t = some (.slice e)) (he : P.underlying e = some (.struct fs))
    (hone : oneCellFields P fs = true) (hC : P.cellsOf e = fs.size) (h : DataW.trod enc P w base spare held fuel t cs = some x) :
    (cs = [.slice none 0 0] ∧ x = (.nil, [])) ∨
    ∃ (a : Addr) (len cap m : Nat) (D : Nat → DataW H) (Pl : Nat → List MemPlace), cs = [.slice (some a) len cap] ∧ base ≤ a.block ∧ len ≤ cap ∧ cap ≤ maxLen ∧ m = (if spare a.block then cap else len) ∧
      x = (.slice ((List.range len).map D) ((List.range (m - len)).map fun j => D (len + j)), MemPlace.row a (m * fs.size) ++ (List.range m).flatMap Pl) ∧
      ∀ i, i < m → ∃ (ys : List (DataW H × List MemPlace)) (n : Nat), D i = .agg (ys.map (·.1)) ∧ Pl i = ys.flatMap (·.2) ∧ ys.length = fs.size ∧
        ∀ (j : Nat) (f : Field), fs[j]? = some f → ∃ (v : Value) (y : DataW H × List MemPlace), w.cell? (a.add (i * fs.size + j)) = some v ∧ ys[j]? = some y ∧ DataW.trod enc P w base spare held n f.type [v] = some y := by
  rcases open_slice ht h with h0 | ⟨a, len, cap, m, n, D, Pl, hcs, hb, hl, hm, hmm, hx, hi⟩
  · exact .inl h0
  · refine .inr ⟨a, len, cap, m, D, Pl, hcs, hb, hl, hm, hmm, by rw [hC] at hx; exact hx, fun i him => ?_⟩
    obtain ⟨cs', hc, ht'⟩ := hi i him
    rw [hC] at hc
    obtain ⟨ys, n', hn', hy, hlen, hyl, hf⟩ := DataW.trod_struct he ht'
    obtain ⟨_, hcl, hat⟩ := World.cells?_some hc
    simp only [Prod.mk.injEq] at hy
    refine ⟨ys, n', hy.1, hy.2, hyl, fun j f hj => ?_⟩
    obtain ⟨ho, hk⟩ := hone_of hone j f hj
    have hjl : j < fs.size := (Array.getElem?_eq_some_iff.1 hj).1
    have hcell := hat j hjl
    have hv : cs'[j]? = some (cs'[j]'(by omega)) := List.getElem?_eq_getElem (by omega)
    have h1 := hf j f hj
    rw [ho, hk] at h1
    have hone' : (cs'.drop j).take 1 = [cs'[j]'(by omega)] := by
      rw [List.drop_eq_getElem_cons (by omega)]
      rfl
    rw [hone'] at h1
    have hys : ys[j]? = some (ys[j]'(by omega)) := List.getElem?_eq_getElem (by omega)
    refine ⟨_, _, ?_, hys, h1.trans hys⟩
    rw [← Go.Deep.add_add, hcell, hv]

/-- What one Op of the arguments holds. -/
def OpOk (w : World) (B : Nat) (o : OpV) : Prop :=
  (-9223372036854775808 ≤ o.kd ∧ o.kd ≤ 9223372036854775807) ∧ (-9223372036854775808 ≤ o.n ∧ o.n ≤ 9223372036854775807) ∧ (0 ≤ o.u ∧ o.u ≤ 18446744073709551615) ∧ (-9223372036854775808 ≤ o.i ∧ o.i ≤ 9223372036854775807) ∧
  ∃ bl l, Rd w (.slice o.ba o.bn o.bc) (bytesV bl) ∧ Rd w (.slice o.la o.ln o.lc) (intL l) ∧ FitL l ∧ bl.length + 1 ≤ B ∧ l.length + 1 ≤ B ∧ o.s.size + 1 ≤ B

instance : Inhabited OpV := ⟨⟨0, false, 0, 0, 0, none, 0, 0, default, none, 0, 0⟩⟩

theorem open_ops {t e bt it : TypeId} {f0 f1 f2 f3 f4 f5 f6 f7 : Field} {fuel : Nat} {cs : List Value} {x : DataW H × List MemPlace} (ht : P.underlying t = some (.slice e)) (he : P.underlying e = some (.struct #[f0, f1, f2, f3, f4, f5, f6, f7]))
    (hone : oneCellFields P #[f0, f1, f2, f3, f4, f5, f6, f7] = true) (hC : P.cellsOf e = 8)
    (k0 : P.underlying f0.type = some (.int .i64)) (k1 : P.underlying f1.type = some .bool) (k2 : P.underlying f2.type = some (.int .i64)) (k3 : P.underlying f3.type = some (.int .u64)) (k4 : P.underlying f4.type = some (.int .i64))
    (k5 : P.underlying f5.type = some (.slice bt)) (k5b : P.underlying bt = some (.int .u8)) (k5c : P.cellsOf bt = 1) (k6 : P.underlying f6.type = some .string) (k7 : P.underlying f7.type = some (.slice it)) (k7b : P.underlying it = some (.int .i64)) (k7c : P.cellsOf it = 1)
    (h : DataW.trod enc P w base spare held fuel t cs = some x) :
    ∃ (a : Option Addr) (n c : Nat) (ops : List OpV), cs = [.slice a n c] ∧ RdOps w a n ops ∧ (∀ o ∈ ops, OpOk w (Rows.uptoBulk x.1) o) ∧ ops.length + 1 ≤ Rows.uptoBulk x.1 := by
  rcases open_slice_fields ht he hone hC h with ⟨rfl, rfl⟩ | ⟨a, len, cap, m, D, Pl, rfl, hb, hl, hm, hmm, rfl, hx⟩
  · exact ⟨none, 0, 0, [], rfl, ⟨rfl, fun h => by simp at h⟩, fun o ho => (by cases ho), by simp [Rows.uptoBulk]⟩
  have hlm : len ≤ m := by rw [hmm]; split <;> omega
  obtain ⟨O, hO⟩ := Go.Deep.choose_lt (α := OpV) (n := len) (p := fun i o => OpOk w (Rows.uptoBulk (D i)) o ∧ ∀ j v, o.cells[j]? = some v → w.cell? (a.add (i * 8 + j)) = some v) (fun i hi => by
    obtain ⟨ys, n', hD, -, hlen, hf⟩ := hx i (by omega)
    obtain ⟨v0, y0, c0, e0, t0⟩ := hf 0 f0 rfl
    obtain ⟨v1, y1, c1, e1, t1⟩ := hf 1 f1 rfl
    obtain ⟨v2, y2, c2, e2, t2⟩ := hf 2 f2 rfl
    obtain ⟨v3, y3, c3, e3, t3⟩ := hf 3 f3 rfl
    obtain ⟨v4, y4, c4, e4, t4⟩ := hf 4 f4 rfl
    obtain ⟨v5, y5, c5, e5, t5⟩ := hf 5 f5 rfl
    obtain ⟨v6, y6, c6, e6, t6⟩ := hf 6 f6 rfl
    obtain ⟨v7, y7, c7, e7, t7⟩ := hf 7 f7 rfl
    have hy : ∀ y, y ∈ ys → Rows.uptoBulk y.1 ≤ Rows.uptoBulk (D i) := fun y hyy => by
      rw [hD]; simp only [Rows.uptoBulk]
      have := bulk_mem (List.mem_map_of_mem (f := (·.1)) hyy); omega
    obtain ⟨n0, h0, -, w0⟩ := DataW.trod_int k0 t0
    obtain ⟨b1, h1, -⟩ := DataW.trod_bool k1 t1
    obtain ⟨n2, h2, -, w2⟩ := DataW.trod_int k2 t2
    obtain ⟨n3, h3, -, w3⟩ := DataW.trod_int k3 t3
    obtain ⟨n4, h4, -, w4⟩ := DataW.trod_int k4 t4
    obtain ⟨u5, bl, h5, hr5, hl5⟩ := open_bytes k5 k5b k5c t5
    obtain ⟨s6, h6, q6, hl6⟩ := DataW.trod_string k6 t6
    obtain ⟨u7, l, h7, hr7, hfit, hl7⟩ := open_intl k7 k7b k7c t7
    have q5 := hy y5 (List.mem_of_getElem? e5)
    have q6' := hy y6 (List.mem_of_getElem? e6)
    have q7 := hy y7 (List.mem_of_getElem? e7)
    simp only [List.cons.injEq, and_true] at h0 h1 h2 h3 h4 h5 h6 h7
    subst h0 h1 h2 h3 h4 h5 h6 h7
    have hr5' := hr5
    have hr7' := hr7
    obtain ⟨a5, z5, rfl, _⟩ := hr5'
    obtain ⟨a7, z7, rfl, _⟩ := hr7'
    have b0 := bounds_i64 w0
    have b2 := bounds_i64 w2
    have b3 := bounds_u64 w3
    have b4 := bounds_i64 w4
    refine ⟨⟨n0, b1, n2, n3, n4, a5, (bytesV bl).length, z5, s6, a7, (intL l).length, z7⟩, ⟨b0, b2, b3, b4, bl, l, hr5, hr7, hfit, by omega, by omega, ?_⟩, ?_⟩
    · have : s6.size = s6.data.toList.length := (Array.length_toList (xs := s6.data)).symm
      rw [q6] at q6'; simp only [Rows.uptoBulk] at q6'; show s6.size + 1 ≤ _; omega
    · intro j v hv
      have hj : j < 8 := (List.getElem?_eq_some_iff.1 hv).1
      have hjj : j = 0 ∨ j = 1 ∨ j = 2 ∨ j = 3 ∨ j = 4 ∨ j = 5 ∨ j = 6 ∨ j = 7 := by omega
      rcases hjj with rfl | rfl | rfl | rfl | rfl | rfl | rfl | rfl
      · rw [← Option.some.inj hv]; exact c0
      · rw [← Option.some.inj hv]; exact c1
      · rw [← Option.some.inj hv]; exact c2
      · rw [← Option.some.inj hv]; exact c3
      · rw [← Option.some.inj hv]; exact c4
      · rw [← Option.some.inj hv]; exact c5
      · rw [← Option.some.inj hv]; exact c6
      · rw [← Option.some.inj hv]; exact c7)
  refine ⟨some a, len, cap, (List.range len).map O, rfl, ⟨by simp, fun h0 => ?_⟩, fun o ho => ?_, ?_⟩
  · have h00 := (hO 0 (by simp at h0; omega)).2 0 _ rfl
    obtain ⟨b, o, sp⟩ := a
    have hs : sp = none := by simpa [Addr.add] using World.cell?_spot h00
    subst hs
    refine ⟨b, o, rfl, fun i hi j v hv => ?_⟩
    have hi' : i < len := by simpa using hi
    have h2 := (hO i hi').2 j v (by simpa using hv)
    rw [addr_add] at h2
    rw [Nat.add_assoc]; exact h2
  · obtain ⟨i, hi, rfl⟩ := List.mem_map.1 ho
    have hi' : i < len := by simpa using hi
    obtain ⟨g1, g2, g3, g4, bl, l, g5, g6, g7, g8, g9, g10⟩ := (hO i hi').1
    have hbk : Rows.uptoBulk (D i) ≤ Rows.uptoBulk (DataW.slice ((List.range len).map D) ((List.range (m - len)).map fun j => D (len + j))) := by
      have := bulk_mem (List.mem_map_of_mem (f := D) (List.mem_range.2 hi'))
      simp only [Rows.uptoBulk]; omega
    exact ⟨g1, g2, g3, g4, bl, l, g5, g6, g7, Nat.le_trans g8 hbk, Nat.le_trans g9 hbk, Nat.le_trans g10 hbk⟩
  · have h1 := bulk_length ((List.range len).map D)
    simp only [Rows.uptoBulk, List.length_map, List.length_range] at *
    omega
end
end Go.Proofs.YtmmflhippbegaaaDoor
