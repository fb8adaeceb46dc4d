/- Merged: Open, OpenOf, OpenT, Sent. -/
import Derived.Test.YtejmjjgbbojfbaaDoorRows
import Derived.Test.YtejmjjgbbojfbaaDoorZLib
import Derived.Deep.Slices
import Derived.ChangeSlices
import Derived.OpenShut
import Derived.Test.YtejmjjgbbojfbaaDoorZMake
import Derived.Deep.Fields
import Derived.ChangeSame
import Derived.Test.YtejmjjgbbojfbaaDoorZG22
import Derived.Deep.Strs
import Derived.Test.YtejmjjgbbojfbaaDoorZG1
import Derived.Test.YtejmjjgbbojfbaaDoorZG16
/- Arguments that are lists of bytes, and lists of such: opened; what the bound on the bulk gives. -/
namespace Go.Proofs.YtejmjjgbbojfbaaDoor
set_option linter.unusedVariables false
open Go.ChangeShapes Go.WideShapes Go.ChangeAt Go.RowKit

theorem bulk_append {H : Type} (l r : List (DataW H)) : Rows.uptoBulkAll (l ++ r) = Rows.uptoBulkAll l + Rows.uptoBulkAll r := by
  induction l with
  | nil => simp [Rows.uptoBulkAll]
  | cons x l ih => simp only [List.cons_append, Rows.uptoBulkAll, ih]; omega
theorem bulk_one {H : Type} (d : DataW H) : 1 ≤ Rows.uptoBulk d := by
  cases d with
  | lit l => cases l <;> simp [Rows.uptoBulk]
  | nil => simp [Rows.uptoBulk]
  | ptr d => simp [Rows.uptoBulk]
  | slice elems spare => simp [Rows.uptoBulk]
  | agg parts => simp [Rows.uptoBulk]
  | iface t d => simp [Rows.uptoBulk]
  | map entries => simp [Rows.uptoBulk]
  | held h => simp [Rows.uptoBulk]
theorem bulk_length {H : Type} (l : List (DataW H)) : l.length ≤ Rows.uptoBulkAll l := by
  induction l with
  | nil => simp [Rows.uptoBulkAll]
  | cons x r ih => have := bulk_one x; simp only [Rows.uptoBulkAll, List.length_cons]; omega

theorem fm_succ (B : Nat → List UInt8) (n : Nat) : (List.range (n + 1)).flatMap B = (List.range n).flatMap B ++ B n := by simp [List.range_succ, List.flatMap_append]
theorem fm_one (B : Nat → List UInt8) {k n : Nat} (h : k < n) : (B k).length ≤ ((List.range n).flatMap B).length := by
  induction n with
  | zero => omega
  | succ n ih =>
    rw [fm_succ, List.length_append]
    by_cases hk : k < n
    · have := ih hk; omega
    · have : k = n := by omega
      subst this; omega
theorem fm_congr {B D : Nat → List UInt8} {n : Nat} (h : ∀ k, k < n → B k = D k) : (List.range n).flatMap B = (List.range n).flatMap D := by
  induction n with
  | zero => rfl
  | succ n ih => rw [fm_succ, fm_succ, ih (fun k hk => h k (by omega)), h n (Nat.lt_succ_self n)]

section
variable {H : Type} {enc : TypeId × Value → H} {P : Program} {w : World} {base : Nat} {spare : Nat → Bool} {held : Bool} {fuel : Nat} {cs : List Value} {x : DataW H × List MemPlace}

theorem open_bytes {t e : TypeId} (ht : P.underlying t = some (.slice e)) (he : P.underlying e = some (.int .u8)) (hc : P.cellsOf e = 1) (h : DataW.trod enc P w base spare held fuel t cs = some x) :
    ∃ v bs, cs = [v] ∧ Rd w v (bytesV bs) ∧ bs.length + 1 ≤ Rows.uptoBulk x.1 := by
  rcases open_ints ht he hc h with ⟨rfl, rfl⟩ | ⟨a, len, cap, zs, rfl, hb, hl, hm, hz, rfl, hcell, hwf⟩
  · exact ⟨_, [], rfl, ⟨none, 0, rfl, Nat.le_refl _, fun h => by simp [bytesV] at h⟩, by simp [Rows.uptoBulk]⟩
  have hlz : len ≤ zs.length := by rw [hz]; split <;> omega
  refine ⟨_, (zs.take len).map (fun n => UInt8.ofNat n.toNat), rfl, ?_, ?_⟩
  · have hll : (bytesV ((zs.take len).map (fun n => UInt8.ofNat n.toNat))).length = len := by rw [bytesV_length, List.length_map, List.length_take]; omega
    refine ⟨some a, cap, by rw [hll], by rw [hll]; exact hl, fun h0 => ?_⟩
    rw [hll] at h0
    obtain ⟨b, o, rfl, hcc⟩ := ints_at hcell (by omega)
    refine ⟨b, o, rfl, fun j y hy => ?_⟩
    have hj : j < len := by have := (List.getElem?_eq_some_iff.1 hy).1; omega
    rw [← addr_add b o j, hcell j (by omega)]
    have hjz : j < zs.length := by omega
    have hw := bounds_u8 (hwf (zs[j]) (List.getElem_mem hjz))
    rw [← hy]
    simp [bytesV, List.getD, hj, hjz]
    omega
  · have h1 := bulk_length (lits (H := H) .u8 (zs.take len))
    simp only [Rows.uptoBulk]
    have h2 : (lits (H := H) .u8 (zs.take len)).length = len := by simp [lits]; omega
    rw [List.length_map, List.length_take]
    omega

/-- A list of lists of bytes: its values ls, the k-th reads B k; its bulk pays all of them. -/
theorem open_lists {t e q : TypeId} (ht : P.underlying t = some (.slice e)) (he : P.underlying e = some (.slice q)) (hq : P.underlying q = some (.int .u8)) (hc : P.cellsOf e = 1) (hcq : P.cellsOf q = 1) (h : DataW.trod enc P w base spare held fuel t cs = some x) :
    ∃ v ls, ∃ B : Nat → List UInt8, cs = [v] ∧ Rd w v ls ∧ (∀ k y, ls[k]? = some y → Rd w y (bytesV (B k))) ∧ (∀ k, ls.length ≤ k → B k = []) ∧ (∀ k, (B k).length ≤ Rows.uptoBulk x.1) ∧ ls.length + ((List.range ls.length).flatMap B).length ≤ Rows.uptoBulk x.1 := by
  rcases Go.Deep.open_slice1 ht hc h with ⟨rfl, rfl⟩ | ⟨a, len, cap, m, n, V, D, Pl, rfl, hb, hl, hm, hmm, rfl, hx⟩
  · exact ⟨_, [], fun _ => [], rfl, ⟨none, 0, rfl, Nat.le_refl _, fun h => by simp at h⟩, fun k y h => by simp at h, fun _ _ => rfl, fun _ => Nat.zero_le _, by simp⟩
  have hlm : len ≤ m := by rw [hmm]; split <;> omega
  obtain ⟨B0, hB0⟩ := Go.Deep.choose_lt (α := List UInt8) (n := len) (p := fun i bs => Rd w (V i) (bytesV bs) ∧ bs.length + 1 ≤ Rows.uptoBulk (D i)) (fun i hi => by
    obtain ⟨v, bs, hv, h1, h2⟩ := open_bytes he hq hcq (hx i (by omega)).2
    injection hv with hv _
    exact ⟨bs, by rw [hv]; exact h1, h2⟩)
  have hpay : ∀ k, k ≤ len → k + ((List.range k).flatMap B0).length ≤ Rows.uptoBulkAll ((List.range k).map D) := by
    intro k
    induction k with
    | zero => intro _; simp [Rows.uptoBulkAll]
    | succ k ih =>
      intro hk
      have h1 := ih (by omega)
      have h2 := (hB0 k (by omega)).2
      rw [List.range_succ, List.flatMap_append, List.map_append, bulk_append, List.length_append]
      simp only [List.flatMap_cons, List.flatMap_nil, List.append_nil, List.map_cons, List.map_nil, Rows.uptoBulkAll]
      omega
  have hone : ∀ k, k < len → (B0 k).length ≤ ((List.range len).flatMap B0).length := fun k hk => fm_one B0 hk
  have hfl : ((List.range len).flatMap fun k => if k < len then B0 k else []) = (List.range len).flatMap B0 := fm_congr fun k hk => if_pos hk
  have hp := hpay len (Nat.le_refl _)
  have hbk : Rows.uptoBulkAll ((List.range len).map D) ≤ Rows.uptoBulk (DataW.slice ((List.range len).map D) ((List.range (m - len)).map fun j => D (len + j))) := by simp only [Rows.uptoBulk]; omega
  refine ⟨_, (List.range len).map V, fun k => if k < len then B0 k else [], rfl, ⟨some a, cap, by simp, by simpa using hl, fun h0 => ?_⟩, fun k y hy => ?_, fun k hk => ?_, fun k => ?_, ?_⟩
  · have h00 := (hx 0 (by simp at h0; omega)).1
    obtain ⟨b, o, sp⟩ := a
    have hs : sp = none := by simpa [Addr.add] using World.cell?_spot h00
    subst hs
    refine ⟨b, o, rfl, fun j y hy => ?_⟩
    have hj : j < len := by have := (List.getElem?_eq_some_iff.1 hy).1; simpa using this
    have h2 := (hx j (by omega)).1
    rw [addr_add] at h2
    rw [h2, ← hy]; simp [hj]
  · have hj : k < len := by have := (List.getElem?_eq_some_iff.1 hy).1; simpa using this
    have hy' : y = V k := by rw [List.getElem?_map, List.getElem?_range hj] at hy; simpa using hy.symm
    dsimp only
    rw [if_pos hj, hy']; exact (hB0 k hj).1
  · simp at hk; exact if_neg (by omega)
  · dsimp only
    split
    · have := hone k (by assumption); exact Nat.le_trans (by omega) hbk
    · exact Nat.zero_le _
  · rw [List.length_map, List.length_range, hfl]; exact Nat.le_trans hp hbk
end
end Go.Proofs.YtejmjjgbbojfbaaDoor

/- An argument that is an Of: opened. -/
namespace Go.Proofs.YtejmjjgbbojfbaaDoor
set_option linter.unusedVariables false
open Go.ChangeShapes Go.WideShapes Go.ChangeAt Go.RowKit Go.Deep
theorem bulk_memO {H : Type} {d : DataW H} {l : List (DataW H)} (h : d ∈ l) : Rows.uptoBulk d ≤ Rows.uptoBulkAll l := by
  induction l with
  | nil => cases h
  | cons x r ih =>
    simp only [Rows.uptoBulkAll]
    rcases List.mem_cons.1 h with rfl | h
    · omega
    · have := ih h; omega
section
variable {H : Type} {enc : TypeId × Value → H} {P : Program} {w : World} {base : Nat} {spare : Nat → Bool} {held : Bool}
theorem open_bound {e : TypeId} {g0 g1 g2 : Field} {fuel : Nat} {cs : List Value} {x : DataW H × List MemPlace} (he : P.underlying e = some (.struct #[g0, g1, g2]))
    (hone : oneCellFields P #[g0, g1, g2] = true) (hC : P.cellsOf e = 3) (k0 : P.underlying g0.type = some .bool) (k1 : P.underlying g1.type = some .bool) (k2 : P.underlying g2.type = some .string)
    (h : DataW.trod enc P w base spare held fuel e cs = some x) :
    ∃ (a b : Bool) (s : ByteArray), cs = [.bool a, .bool b, .string s] ∧ s.size + 1 ≤ Rows.uptoBulk x.1 := by
  obtain ⟨ys, n', hn', hy, hlen, hyl, hf⟩ := DataW.trod_struct he h
  rw [hC] at hlen
  have hf' : ∀ (j : Nat) (f : Field), (#[g0, g1, g2] : Array Field)[j]? = some f → ∃ (v : Value) (y : DataW H × List MemPlace), cs[j]? = some v ∧ ys[j]? = some y ∧ DataW.trod enc P w base spare held n' f.type [v] = some y := fun j f hj => by
    obtain ⟨ho, hk⟩ := hone_of hone j f hj
    have hjl : j < 3 := (Array.getElem?_eq_some_iff.1 hj).1
    have h1 := hf j f hj
    rw [ho, hk] at h1
    have hone' : (cs.drop j).take 1 = [cs[j]'(by omega)] := by
      rw [List.drop_eq_getElem_cons (by omega)]
      rfl
    rw [hone'] at h1
    have hyl' : ys.length = 3 := hyl
    have hys : ys[j]? = some (ys[j]'(by omega)) := List.getElem?_eq_getElem (by omega)
    exact ⟨_, _, List.getElem?_eq_getElem (by omega), hys, h1.trans hys⟩
  obtain ⟨v0, y0, c0, e0, t0⟩ := hf' 0 g0 rfl
  obtain ⟨v1, y1, c1, e1, t1⟩ := hf' 1 g1 rfl
  obtain ⟨v2, y2, c2, e2, t2⟩ := hf' 2 g2 rfl
  obtain ⟨b0, h0, -⟩ := DataW.trod_bool k0 t0
  obtain ⟨b1, h1, -⟩ := DataW.trod_bool k1 t1
  obtain ⟨s, h2, q2, hl2⟩ := DataW.trod_string k2 t2
  simp only [List.cons.injEq, and_true] at h0 h1 h2
  subst h0 h1 h2
  refine ⟨b0, b1, s, ?_, ?_⟩
  · match cs, hlen with
    | [x0, x1, x2], _ =>
      simp only [List.getElem?_cons_zero, List.getElem?_cons_succ, Option.some.injEq] at c0 c1 c2
      subst c0 c1 c2
      rfl
  · have h3 : Rows.uptoBulk y2.1 ≤ Rows.uptoBulk x.1 := by
      rw [hy]; simp only [Rows.uptoBulk]
      have := bulk_memO (List.mem_map_of_mem (f := (·.1)) (List.mem_of_getElem? e2)); omega
    have h4 : s.size = s.data.toList.length := (Array.length_toList (xs := s.data)).symm
    rw [q2] at h3; simp only [Rows.uptoBulk] at h3; omega
theorem open_of {e bd : TypeId} {f0 f1 f2 f3 f4 g0 g1 g2 : Field} {fuel : Nat} {cs : List Value} {x : DataW H × List MemPlace} (he : P.underlying e = some (.struct #[f0, f1, f2, f3, f4])) (hC : P.cellsOf e = 9)
    (o0 : f0.offset = 0 ∧ P.cellsOf f0.type = 1) (o1 : f1.offset = 1 ∧ P.cellsOf f1.type = 1) (o2 : f2.offset = 2 ∧ P.cellsOf f2.type = 1) (o3 : f3.offset = 3 ∧ P.cellsOf f3.type = 3) (o4 : f4.offset = 6 ∧ P.cellsOf f4.type = 3)
    (k0 : P.underlying f0.type = some (.int .i64)) (k1 : P.underlying f1.type = some .string) (k2 : P.underlying f2.type = some (.int .i64)) (k3 : f3.type = bd) (k4 : f4.type = bd)
    (hb : P.underlying bd = some (.struct #[g0, g1, g2])) (hone : oneCellFields P #[g0, g1, g2] = true) (hbC : P.cellsOf bd = 3) (l0 : P.underlying g0.type = some .bool) (l1 : P.underlying g1.type = some .bool) (l2 : P.underlying g2.type = some .string)
    (h : DataW.trod enc P w base spare held fuel e cs = some x) :
    ∃ o : OfV, cs = o.cells ∧ (-9223372036854775808 ≤ o.k ∧ o.k ≤ 9223372036854775807) ∧ (-9223372036854775808 ≤ o.n ∧ o.n ≤ 9223372036854775807) ∧ o.s.size + 1 ≤ Rows.uptoBulk x.1 ∧ o.ls.size + 1 ≤ Rows.uptoBulk x.1 ∧ o.hs.size + 1 ≤ Rows.uptoBulk x.1 := by
  obtain ⟨ys, n', hn', hy, hlen, hyl, hf⟩ := DataW.trod_struct he h
  rw [hC] at hlen
  have hyl' : ys.length = 5 := hyl
  have hys : ∀ j, (hj : j < 5) → ys[j]? = some (ys[j]'(by omega)) := fun j hj => List.getElem?_eq_getElem (by omega)
  have hy1 : ∀ y, y ∈ ys → Rows.uptoBulk y.1 ≤ Rows.uptoBulk x.1 := fun y hyy => by
    rw [hy]; simp only [Rows.uptoBulk]
    have := bulk_memO (List.mem_map_of_mem (f := (·.1)) hyy); omega
  obtain ⟨x0, x1, x2, x3, x4, x5, x6, x7, x8, rfl⟩ : ∃ x0 x1 x2 x3 x4 x5 x6 x7 x8, cs = [x0, x1, x2, x3, x4, x5, x6, x7, x8] := by
    match cs, hlen with
    | [x0, x1, x2, x3, x4, x5, x6, x7, x8], _ => exact ⟨x0, x1, x2, x3, x4, x5, x6, x7, x8, rfl⟩
  have t0 := hf 0 f0 rfl
  have t1 := hf 1 f1 rfl
  have t2 := hf 2 f2 rfl
  have t3 := hf 3 f3 rfl
  have t4 := hf 4 f4 rfl
  rw [o0.1, o0.2, hys 0 (by omega)] at t0
  rw [o1.1, o1.2, hys 1 (by omega)] at t1
  rw [o2.1, o2.2, hys 2 (by omega)] at t2
  rw [o3.1, o3.2, hys 3 (by omega), k3] at t3
  rw [o4.1, o4.2, hys 4 (by omega), k4] at t4
  obtain ⟨n0, h0, -, w0⟩ := DataW.trod_int k0 t0
  obtain ⟨s1, h1, q1, hl1⟩ := DataW.trod_string k1 t1
  obtain ⟨n2, h2, -, w2⟩ := DataW.trod_int k2 t2
  obtain ⟨a3, b3, s3, h3, z3⟩ := open_bound hb hone hbC l0 l1 l2 t3
  obtain ⟨a4, b4, s4, h4, z4⟩ := open_bound hb hone hbC l0 l1 l2 t4
  have b0 := bounds_i64 w0
  have b2 := bounds_i64 w2
  have m1 := hy1 _ (List.getElem_mem (show 1 < ys.length by omega))
  have m3 := hy1 _ (List.getElem_mem (show 3 < ys.length by omega))
  have m4 := hy1 _ (List.getElem_mem (show 4 < ys.length by omega))
  simp only [List.drop_zero, List.drop_succ_cons, List.take_succ_cons, List.take_zero, List.cons.injEq, and_true] at h0 h1 h2 h3 h4
  obtain ⟨r3a, r3b, r3c⟩ := h3
  obtain ⟨r4a, r4b, r4c⟩ := h4
  subst h0 h1 h2 r3a r3b r3c r4a r4b r4c
  have hs1 : s1.size = s1.data.toList.length := (Array.length_toList (xs := s1.data)).symm
  rw [q1] at m1; simp only [Rows.uptoBulk] at m1
  exact ⟨⟨n0, s1, n2, a3, b3, s3, a4, b4, s4⟩, rfl, b0, b2, by show s1.size + 1 ≤ _; omega, by show s3.size + 1 ≤ _; omega, by show s4.size + 1 ≤ _; omega⟩
end
end Go.Proofs.YtejmjjgbbojfbaaDoor

/- Arguments that are lists of texts: opened. -/
namespace Go.Proofs.YtejmjjgbbojfbaaDoor
set_option linter.unusedVariables false
open Go.ChangeShapes Go.WideShapes Go.ChangeAt Go.RowKit
theorem bulk_in {H : Type} {d : DataW H} {l : List (DataW H)} (h : d ∈ l) : Rows.uptoBulk d ≤ Rows.uptoBulkAll l := by
  induction l with
  | nil => cases h
  | cons x r ih =>
    simp only [Rows.uptoBulkAll]
    rcases List.mem_cons.1 h with rfl | h
    · omega
    · have := ih h; omega
section
variable {H : Type} {enc : TypeId × Value → H} {P : Program} {w : World} {base : Nat} {spare : Nat → Bool} {held : Bool} {fuel : Nat} {cs : List Value} {x : DataW H × List MemPlace}
theorem open_texts {t e : TypeId} (ht : P.underlying t = some (.slice e)) (he : P.underlying e = some .string) (hc : P.cellsOf e = 1) (h : DataW.trod enc P w base spare held fuel t cs = some x) :
    ∃ v ls, cs = [v] ∧ Rd w v (strsV ls) ∧ (∀ b ∈ ls, b.size + 1 ≤ Rows.uptoBulk x.1) ∧ ls.length + 1 ≤ Rows.uptoBulk x.1 := by
  rcases Go.Deep.open_strs ht he hc h with ⟨rfl, rfl⟩ | ⟨a, len, cap, m, Sx, rfl, hb, hl, hm, hmm, rfl, hcell⟩
  · exact ⟨_, [], rfl, ⟨none, 0, rfl, Nat.le_refl _, fun h => by simp [strsV] at h⟩, fun z hz => (by simp at hz), by simp [Rows.uptoBulk]⟩
  have hlm : len ≤ m := by rw [hmm]; split <;> omega
  refine ⟨_, (List.range len).map Sx, rfl, ?_, ?_, ?_⟩
  · have hll : (strsV ((List.range len).map Sx)).length = len := by rw [strsV_length]; simp
    refine ⟨some a, cap, by rw [hll], by rw [hll]; exact hl, fun h0 => ?_⟩
    rw [hll] at h0
    have h00 := (hcell 0 (by omega)).1
    obtain ⟨b, o, sp⟩ := a
    have hs : sp = none := by simpa [Addr.add] using World.cell?_spot h00
    subst hs
    refine ⟨b, o, rfl, fun j y hy => ?_⟩
    have hj : j < len := by have := (List.getElem?_eq_some_iff.1 hy).1; omega
    rw [← addr_add b o j, (hcell j (by omega)).1, ← hy]
    simp [strsV, hj]
  · intro z hz
    obtain ⟨i, hi, rfl⟩ := List.mem_map.1 hz
    have h1 := bulk_in (H := H) (List.mem_map_of_mem (f := fun i => DataW.lit (.string (Sx i).data.toList)) hi)
    have h2 : (Sx i).size = (Sx i).data.toList.length := (Array.length_toList (xs := (Sx i).data)).symm
    simp only [Rows.uptoBulk] at h1 ⊢
    omega
  · have h1 := bulk_length ((List.range len).map fun i => (DataW.lit (.string (Sx i).data.toList) : DataW H))
    simp only [Rows.uptoBulk, List.length_map, List.length_range] at h1 ⊢
    omega
end
end Go.Proofs.YtejmjjgbbojfbaaDoor

/- All the sentinels, as a row's list lays them (printed by wip/gen_sent.py). -/
namespace Go.Proofs.YtejmjjgbbojfbaaDoor
set_option linter.unusedVariables false
open Go.ChangeShapes Go.WideShapes Go.ChangeAt Go.RowKit

def errL24 : List (Nat × String × List UInt8) := [(1, "concord/api.ErrShort", [99, 111, 110, 99, 111, 114, 100, 58, 32, 116, 111, 111, 32, 115, 104, 111, 114, 116]), (2, "concord/api.ErrVarint", [99, 111, 110, 99, 111, 114, 100, 58, 32, 118, 97, 114, 105, 110, 116]), (3, "concord/api.ErrLimit", [99, 111, 110, 99, 111, 114, 100, 58, 32, 108, 105, 109, 105, 116]), (4, "concord/api.ErrOrder", [99, 111, 110, 99, 111, 114, 100, 58, 32, 111, 114, 100, 101, 114]), (5, "concord/api.ErrTail", [99, 111, 110, 99, 111, 114, 100, 58, 32, 116, 97, 105, 108]), (6, "concord/api.ErrTag", [99, 111, 110, 99, 111, 114, 100, 58, 32, 116, 97, 103]), (7, "concord/api.ErrSum", [99, 111, 110, 99, 111, 114, 100, 58, 32, 115, 117, 109]), (8, "concord/api.ErrRange", [99, 111, 110, 99, 111, 114, 100, 58, 32, 114, 97, 110, 103, 101]), (9, "concord/api.ErrSize", [99, 111, 110, 99, 111, 114, 100, 58, 32, 115, 105, 122, 101]), (10, "concord/api.ErrCorrupt", [99, 111, 110, 99, 111, 114, 100, 58, 32, 99, 111, 114, 114, 117, 112, 116]), (11, "concord/api.ErrSchema", [99, 111, 110, 99, 111, 114, 100, 58, 32, 115, 99, 104, 101, 109, 97]), (12, "concord/api.ErrField", [99, 111, 110, 99, 111, 114, 100, 58, 32, 102, 105, 101, 108, 100]), (13, "concord/api.ErrValue", [99, 111, 110, 99, 111, 114, 100, 58, 32, 118, 97, 108, 117, 101]), (14, "concord/api.ErrPattern", [99, 111, 110, 99, 111, 114, 100, 58, 32, 112, 97, 116, 116, 101, 114, 110]), (15, "concord/api.ErrStates", [99, 111, 110, 99, 111, 114, 100, 58, 32, 115, 116, 97, 116, 101, 115]), (16, "concord/api.ErrSyntax", [99, 111, 110, 99, 111, 114, 100, 58, 32, 115, 121, 110, 116, 97, 120]), (17, "concord/api.ErrDeep", [99, 111, 110, 99, 111, 114, 100, 58, 32, 116, 111, 111, 32, 100, 101, 101, 112]), (18, "concord/api.ErrNode", [99, 111, 110, 99, 111, 114, 100, 58, 32, 110, 111, 100, 101]), (19, "concord/api.ErrTerms", [99, 111, 110, 99, 111, 114, 100, 58, 32, 116, 111, 111, 32, 109, 97, 110, 121, 32, 116, 101, 114, 109, 115]), (20, "concord/api.ErrScore", [99, 111, 110, 99, 111, 114, 100, 58, 32, 115, 99, 111, 114, 101, 32, 111, 118, 101, 114, 102, 108, 111, 119]), (21, "concord/api.ErrCode", [99, 111, 110, 99, 111, 114, 100, 58, 32, 99, 111, 100, 101]), (22, "concord/api.ErrFuel", [99, 111, 110, 99, 111, 114, 100, 58, 32, 102, 117, 101, 108]), (23, "concord/api.ErrDoc", [99, 111, 110, 99, 111, 114, 100, 58, 32, 100, 111, 99, 117, 109, 101, 110, 116]), (24, "concord/api.ErrCommand", [99, 111, 110, 99, 111, 114, 100, 58, 32, 99, 111, 109, 109, 97, 110, 100])]
set_option maxRecDepth 100000 in
theorem sent_of {W : World} {EA : Nat → Addr} (h : Errs W EA (errL24.map fun x => (x.1, x.2.1))) : Sent W EA where
  c1 := h.cell (k := 1) (n := "concord/api.ErrShort") (by decide) (by kernel_rfl)
  c2 := h.cell (k := 2) (n := "concord/api.ErrVarint") (by decide) (by kernel_rfl)
  c3 := h.cell (k := 3) (n := "concord/api.ErrLimit") (by decide) (by kernel_rfl)
  c4 := h.cell (k := 4) (n := "concord/api.ErrOrder") (by decide) (by kernel_rfl)
  c5 := h.cell (k := 5) (n := "concord/api.ErrTail") (by decide) (by kernel_rfl)
  c6 := h.cell (k := 6) (n := "concord/api.ErrTag") (by decide) (by kernel_rfl)
  c7 := h.cell (k := 7) (n := "concord/api.ErrSum") (by decide) (by kernel_rfl)
  c8 := h.cell (k := 8) (n := "concord/api.ErrRange") (by decide) (by kernel_rfl)
  c9 := h.cell (k := 9) (n := "concord/api.ErrSize") (by decide) (by kernel_rfl)
  c10 := h.cell (k := 10) (n := "concord/api.ErrCorrupt") (by decide) (by kernel_rfl)
  c11 := h.cell (k := 11) (n := "concord/api.ErrSchema") (by decide) (by kernel_rfl)
  c12 := h.cell (k := 12) (n := "concord/api.ErrField") (by decide) (by kernel_rfl)
  c13 := h.cell (k := 13) (n := "concord/api.ErrValue") (by decide) (by kernel_rfl)
  c14 := h.cell (k := 14) (n := "concord/api.ErrPattern") (by decide) (by kernel_rfl)
  c15 := h.cell (k := 15) (n := "concord/api.ErrStates") (by decide) (by kernel_rfl)
  c16 := h.cell (k := 16) (n := "concord/api.ErrSyntax") (by decide) (by kernel_rfl)
  c17 := h.cell (k := 17) (n := "concord/api.ErrDeep") (by decide) (by kernel_rfl)
  c18 := h.cell (k := 18) (n := "concord/api.ErrNode") (by decide) (by kernel_rfl)
  c19 := h.cell (k := 19) (n := "concord/api.ErrTerms") (by decide) (by kernel_rfl)
  c20 := h.cell (k := 20) (n := "concord/api.ErrScore") (by decide) (by kernel_rfl)
  c21 := h.cell (k := 21) (n := "concord/api.ErrCode") (by decide) (by kernel_rfl)
  c22 := h.cell (k := 22) (n := "concord/api.ErrFuel") (by decide) (by kernel_rfl)
  c23 := h.cell (k := 23) (n := "concord/api.ErrDoc") (by decide) (by kernel_rfl)
  c24 := h.cell (k := 24) (n := "concord/api.ErrCommand") (by decide) (by kernel_rfl)
  blk k h1 h2 := by
    have hm : ∀ k : Fin 25, 1 ≤ k.1 → ∃ s, (k.1, s) ∈ errL24.map fun x => (x.1, x.2.1) := by
      intro k hk
      have : (errL24.map fun x => (x.1, x.2.1))[k.1 - 1]? = some (k.1, ((errL24.map fun x => (x.1, x.2.1))[k.1 - 1]?.map (·.2)).getD "") := by
        revert k; decide
      exact ⟨_, List.mem_of_getElem? this⟩
    obtain ⟨s, hs⟩ := hm ⟨k, by omega⟩ h1
    obtain ⟨g, _, _, hb⟩ := h.at_ _ hs
    exact hb
  ne i j h1 h2 h3 h4 hn := by
    have hm : ∀ k : Fin 25, 1 ≤ k.1 → ∃ s, (k.1, s) ∈ errL24.map fun x => (x.1, x.2.1) := by
      intro k hk
      have : (errL24.map fun x => (x.1, x.2.1))[k.1 - 1]? = some (k.1, ((errL24.map fun x => (x.1, x.2.1))[k.1 - 1]?.map (·.2)).getD "") := by
        revert k; decide
      exact ⟨_, List.mem_of_getElem? this⟩
    obtain ⟨s, hs⟩ := hm ⟨i, by omega⟩ h1
    obtain ⟨t, ht⟩ := hm ⟨j, by omega⟩ h3
    exact h.ne _ hs _ ht hn
end Go.Proofs.YtejmjjgbbojfbaaDoor
