/- Merged: Open, OpenI, OpenP, SentL7. -/
import Derived.Test.YthnpbfadblcicaaDoorRows
import Derived.Test.YthnpbfadblcicaaDoorZLib
import Derived.Deep.Slices
import Derived.ChangeSlices
import Derived.OpenShut
import Derived.Test.YthnpbfadblcicaaDoorZG1
import Derived.Test.YthnpbfadblcicaaDoorZG3
import Derived.Test.YthnpbfadblcicaaDoorZG2
import Derived.Deep.Fields
import Derived.ChangeSame
import Derived.Test.YthnpbfadblcicaaDoorZG8
/- Arguments that are lists of bytes, and lists of such: opened; what the bound on the bulk gives. -/
namespace Go.Proofs.YthnpbfadblcicaaDoor
set_option linter.unusedVariables false
open Go.ChangeShapes Go.WideShapes Go.ChangeAt Go.RowKit

theorem bulk_append {H : Type} (l r : List (DataW H)) : Rows.uptoBulkAll (l ++ r) = Rows.uptoBulkAll l + Rows.uptoBulkAll r := by
  induction l with
  | nil => simp [Rows.uptoBulkAll]
  | cons x l ih => simp only [List.cons_append, Rows.uptoBulkAll, ih]; omega
theorem bulk_one {H : Type} (d : DataW H) : 1 ≤ Rows.uptoBulk d := by
  cases d with
  | lit l => cases l <;> simp [Rows.uptoBulk]
  | nil => simp [Rows.uptoBulk]
  | ptr d => simp [Rows.uptoBulk]
  | slice elems spare => simp [Rows.uptoBulk]
  | agg parts => simp [Rows.uptoBulk]
  | iface t d => simp [Rows.uptoBulk]
  | map entries => simp [Rows.uptoBulk]
  | held h => simp [Rows.uptoBulk]
theorem bulk_length {H : Type} (l : List (DataW H)) : l.length ≤ Rows.uptoBulkAll l := by
  induction l with
  | nil => simp [Rows.uptoBulkAll]
  | cons x r ih => have := bulk_one x; simp only [Rows.uptoBulkAll, List.length_cons]; omega

theorem fm_succ (B : Nat → List UInt8) (n : Nat) : (List.range (n + 1)).flatMap B = (List.range n).flatMap B ++ B n := by simp [List.range_succ, List.flatMap_append]
theorem fm_one (B : Nat → List UInt8) {k n : Nat} (h : k < n) : (B k).length ≤ ((List.range n).flatMap B).length := by
  induction n with
  | zero => omega
  | succ n ih =>
    rw [fm_succ, List.length_append]
    by_cases hk : k < n
    · have := ih hk; omega
    · have : k = n := by omega
      subst this; omega
theorem fm_congr {B D : Nat → List UInt8} {n : Nat} (h : ∀ k, k < n → B k = D k) : (List.range n).flatMap B = (List.range n).flatMap D := by
  induction n with
  | zero => rfl
  | succ n ih => rw [fm_succ, fm_succ, ih (fun k hk => h k (by omega)), h n (Nat.lt_succ_self n)]

section
variable {H : Type} {enc : TypeId × Value → H} {P : Program} {w : World} {base : Nat} {spare : Nat → Bool} {held : Bool} {fuel : Nat} {cs : List Value} {x : DataW H × List MemPlace}

theorem open_bytes {t e : TypeId} (ht : P.underlying t = some (.slice e)) (he : P.underlying e = some (.int .u8)) (hc : P.cellsOf e = 1) (h : DataW.trod enc P w base spare held fuel t cs = some x) :
    ∃ v bs, cs = [v] ∧ Rd w v (bytesV bs) ∧ bs.length + 1 ≤ Rows.uptoBulk x.1 := by
  rcases open_ints ht he hc h with ⟨rfl, rfl⟩ | ⟨a, len, cap, zs, rfl, hb, hl, hm, hz, rfl, hcell, hwf⟩
  · exact ⟨_, [], rfl, ⟨none, 0, rfl, Nat.le_refl _, fun h => by simp [bytesV] at h⟩, by simp [Rows.uptoBulk]⟩
  have hlz : len ≤ zs.length := by rw [hz]; split <;> omega
  refine ⟨_, (zs.take len).map (fun n => UInt8.ofNat n.toNat), rfl, ?_, ?_⟩
  · have hll : (bytesV ((zs.take len).map (fun n => UInt8.ofNat n.toNat))).length = len := by rw [bytesV_length, List.length_map, List.length_take]; omega
    refine ⟨some a, cap, by rw [hll], by rw [hll]; exact hl, fun h0 => ?_⟩
    rw [hll] at h0
    obtain ⟨b, o, rfl, hcc⟩ := ints_at hcell (by omega)
    refine ⟨b, o, rfl, fun j y hy => ?_⟩
    have hj : j < len := by have := (List.getElem?_eq_some_iff.1 hy).1; omega
    rw [← addr_add b o j, hcell j (by omega)]
    have hjz : j < zs.length := by omega
    have hw := bounds_u8 (hwf (zs[j]) (List.getElem_mem hjz))
    rw [← hy]
    simp [bytesV, List.getD, hj, hjz]
    omega
  · have h1 := bulk_length (lits (H := H) .u8 (zs.take len))
    simp only [Rows.uptoBulk]
    have h2 : (lits (H := H) .u8 (zs.take len)).length = len := by simp [lits]; omega
    rw [List.length_map, List.length_take]
    omega

/-- A list of lists of bytes: its values ls, the k-th reads B k; its bulk pays all of them. -/
theorem open_lists {t e q : TypeId} (ht : P.underlying t = some (.slice e)) (he : P.underlying e = some (.slice q)) (hq : P.underlying q = some (.int .u8)) (hc : P.cellsOf e = 1) (hcq : P.cellsOf q = 1) (h : DataW.trod enc P w base spare held fuel t cs = some x) :
    ∃ v ls, ∃ B : Nat → List UInt8, cs = [v] ∧ Rd w v ls ∧ (∀ k y, ls[k]? = some y → Rd w y (bytesV (B k))) ∧ (∀ k, ls.length ≤ k → B k = []) ∧ (∀ k, (B k).length ≤ Rows.uptoBulk x.1) ∧ ls.length + ((List.range ls.length).flatMap B).length ≤ Rows.uptoBulk x.1 := by
  rcases Go.Deep.open_slice1 ht hc h with ⟨rfl, rfl⟩ | ⟨a, len, cap, m, n, V, D, Pl, rfl, hb, hl, hm, hmm, rfl, hx⟩
  · exact ⟨_, [], fun _ => [], rfl, ⟨none, 0, rfl, Nat.le_refl _, fun h => by simp at h⟩, fun k y h => by simp at h, fun _ _ => rfl, fun _ => Nat.zero_le _, by simp⟩
  have hlm : len ≤ m := by rw [hmm]; split <;> omega
  obtain ⟨B0, hB0⟩ := Go.Deep.choose_lt (α := List UInt8) (n := len) (p := fun i bs => Rd w (V i) (bytesV bs) ∧ bs.length + 1 ≤ Rows.uptoBulk (D i)) (fun i hi => by
    obtain ⟨v, bs, hv, h1, h2⟩ := open_bytes he hq hcq (hx i (by omega)).2
    injection hv with hv _
    exact ⟨bs, by rw [hv]; exact h1, h2⟩)
  have hpay : ∀ k, k ≤ len → k + ((List.range k).flatMap B0).length ≤ Rows.uptoBulkAll ((List.range k).map D) := by
    intro k
    induction k with
    | zero => intro _; simp [Rows.uptoBulkAll]
    | succ k ih =>
      intro hk
      have h1 := ih (by omega)
      have h2 := (hB0 k (by omega)).2
      rw [List.range_succ, List.flatMap_append, List.map_append, bulk_append, List.length_append]
      simp only [List.flatMap_cons, List.flatMap_nil, List.append_nil, List.map_cons, List.map_nil, Rows.uptoBulkAll]
      omega
  have hone : ∀ k, k < len → (B0 k).length ≤ ((List.range len).flatMap B0).length := fun k hk => fm_one B0 hk
  have hfl : ((List.range len).flatMap fun k => if k < len then B0 k else []) = (List.range len).flatMap B0 := fm_congr fun k hk => if_pos hk
  have hp := hpay len (Nat.le_refl _)
  have hbk : Rows.uptoBulkAll ((List.range len).map D) ≤ Rows.uptoBulk (DataW.slice ((List.range len).map D) ((List.range (m - len)).map fun j => D (len + j))) := by simp only [Rows.uptoBulk]; omega
  refine ⟨_, (List.range len).map V, fun k => if k < len then B0 k else [], rfl, ⟨some a, cap, by simp, by simpa using hl, fun h0 => ?_⟩, fun k y hy => ?_, fun k hk => ?_, fun k => ?_, ?_⟩
  · have h00 := (hx 0 (by simp at h0; omega)).1
    obtain ⟨b, o, sp⟩ := a
    have hs : sp = none := by simpa [Addr.add] using World.cell?_spot h00
    subst hs
    refine ⟨b, o, rfl, fun j y hy => ?_⟩
    have hj : j < len := by have := (List.getElem?_eq_some_iff.1 hy).1; simpa using this
    have h2 := (hx j (by omega)).1
    rw [addr_add] at h2
    rw [h2, ← hy]; simp [hj]
  · have hj : k < len := by have := (List.getElem?_eq_some_iff.1 hy).1; simpa using this
    have hy' : y = V k := by rw [List.getElem?_map, List.getElem?_range hj] at hy; simpa using hy.symm
    dsimp only
    rw [if_pos hj, hy']; exact (hB0 k hj).1
  · simp at hk; exact if_neg (by omega)
  · dsimp only
    split
    · have := hone k (by assumption); exact Nat.le_trans (by omega) hbk
    · exact Nat.zero_le _
  · rw [List.length_map, List.length_range, hfl]; exact Nat.le_trans hp hbk
end
end Go.Proofs.YthnpbfadblcicaaDoor

/- Arguments that are lists of ints: opened. -/
namespace Go.Proofs.YthnpbfadblcicaaDoor
set_option linter.unusedVariables false
open Go.ChangeShapes Go.WideShapes Go.ChangeAt Go.RowKit
section
variable {H : Type} {enc : TypeId × Value → H} {P : Program} {w : World} {base : Nat} {spare : Nat → Bool} {held : Bool} {fuel : Nat} {cs : List Value} {x : DataW H × List MemPlace}
theorem open_intl {t e : TypeId} (ht : P.underlying t = some (.slice e)) (he : P.underlying e = some (.int .i64)) (hc : P.cellsOf e = 1) (h : DataW.trod enc P w base spare held fuel t cs = some x) :
    ∃ v l, cs = [v] ∧ Rd w v (intL l) ∧ FitL l ∧ l.length + 1 ≤ Rows.uptoBulk x.1 := by
  rcases open_ints ht he hc h with ⟨rfl, rfl⟩ | ⟨a, len, cap, zs, rfl, hb, hl, hm, hz, rfl, hcell, hwf⟩
  · exact ⟨_, [], rfl, ⟨none, 0, rfl, Nat.le_refl _, fun h => by simp [intL] at h⟩, fun z hz => (by simp at hz), by simp [Rows.uptoBulk]⟩
  have hlz : len ≤ zs.length := by rw [hz]; split <;> omega
  refine ⟨_, zs.take len, rfl, ?_, ?_, ?_⟩
  · have hll : (intL (zs.take len)).length = len := by rw [intL_length, List.length_take]; omega
    refine ⟨some a, cap, by rw [hll], by rw [hll]; exact hl, fun h0 => ?_⟩
    rw [hll] at h0
    obtain ⟨b, o, rfl, hcc⟩ := ints_at hcell (by omega)
    refine ⟨b, o, rfl, fun j y hy => ?_⟩
    have hj : j < len := by have := (List.getElem?_eq_some_iff.1 hy).1; omega
    rw [← addr_add b o j, hcell j (by omega)]
    have hjz : j < zs.length := by omega
    rw [← hy]
    simp [intL, List.getD, hj, hjz]
  · intro z hz
    have hw := bounds_i64 (hwf z (List.mem_of_mem_take hz))
    omega
  · have h1 := bulk_length (lits (H := H) .i64 (zs.take len))
    simp only [Rows.uptoBulk]
    have h2 : (lits (H := H) .i64 (zs.take len)).length = len := by simp [lits]; omega
    rw [List.length_take]
    omega
end
end Go.Proofs.YthnpbfadblcicaaDoor

/- Arguments that are lists of postings: opened. -/
namespace Go.Proofs.YthnpbfadblcicaaDoor
set_option linter.unusedVariables false
open Go.ChangeShapes Go.WideShapes Go.ChangeAt Go.RowKit Go.Deep
theorem bulk_mem {H : Type} {d : DataW H} {l : List (DataW H)} (h : d ∈ l) : Rows.uptoBulk d ≤ Rows.uptoBulkAll l := by
  induction l with
  | nil => cases h
  | cons x r ih =>
    simp only [Rows.uptoBulkAll]
    rcases List.mem_cons.1 h with rfl | h
    · omega
    · have := ih h; omega
theorem bulk_total {H : Type} (O : Nat → PostV) (D : Nat → DataW H) : ∀ n : Nat, (∀ i, i < n → (O i).pos.length + 1 ≤ Rows.uptoBulk (D i)) → totalV ((List.range n).map O) + n ≤ Rows.uptoBulkAll ((List.range n).map D)
  | 0, _ => by simp [totalV]
  | n + 1, h => by
    have h1 := bulk_total O D n (fun i hi => h i (by omega))
    have h2 := h n (by omega)
    rw [List.range_succ, List.map_append, List.map_append, bulk_append, totalV_append]
    have h3 : totalV ([n].map O) = (O n).pos.length := by simp [totalV]
    have h4 : Rows.uptoBulkAll ([n].map D) = Rows.uptoBulk (D n) := by simp [Rows.uptoBulkAll]
    omega
theorem totalV_mem {p : PostV} : ∀ {l : List PostV}, p ∈ l → p.pos.length ≤ totalV l
  | q :: r, h => by
    unfold totalV
    rw [List.map_cons, List.sum_cons]
    rcases List.mem_cons.1 h with rfl | h
    · omega
    · have := totalV_mem h; unfold totalV at this; omega
instance : Inhabited PostV := ⟨⟨0, []⟩⟩
section
variable {H : Type} {enc : TypeId × Value → H} {P : Program} {w : World} {base : Nat} {spare : Nat → Bool} {held : Bool}
theorem open_slice_cells {t e : TypeId} {fs : Array Field} {fuel : Nat} {cs : List Value} {x : DataW H × List MemPlace} (ht : P.underlying t = some (.slice e)) (he : P.underlying e = some (.struct fs))
    (hone : oneCellFields P fs = true) (hC : P.cellsOf e = fs.size) (h : DataW.trod enc P w base spare held fuel t cs = some x) :
    (cs = [.slice none 0 0] ∧ x = (.nil, [])) ∨
    ∃ (a : Addr) (len cap m : Nat) (D : Nat → DataW H) (Pl : Nat → List MemPlace), cs = [.slice (some a) len cap] ∧ base ≤ a.block ∧ len ≤ cap ∧ cap ≤ maxLen ∧ m = (if spare a.block then cap else len) ∧
      x = (.slice ((List.range len).map D) ((List.range (m - len)).map fun j => D (len + j)), MemPlace.row a (m * fs.size) ++ (List.range m).flatMap Pl) ∧
      ∀ i, i < m → ∃ (ys : List (DataW H × List MemPlace)) (n : Nat), D i = .agg (ys.map (·.1)) ∧ Pl i = ys.flatMap (·.2) ∧ ys.length = fs.size ∧
        ∀ (j : Nat) (f : Field), fs[j]? = some f → ∃ (v : Value) (y : DataW H × List MemPlace), w.cell? (a.add (i * fs.size + j)) = some v ∧ ys[j]? = some y ∧ DataW.trod enc P w base spare held n f.type [v] = some y := by
  rcases open_slice ht h with h0 | ⟨a, len, cap, m, n, D, Pl, hcs, hb, hl, hm, hmm, hx, hi⟩
  · exact .inl h0
  · refine .inr ⟨a, len, cap, m, D, Pl, hcs, hb, hl, hm, hmm, by rw [hC] at hx; exact hx, fun i him => ?_⟩
    obtain ⟨cs', hc, ht'⟩ := hi i him
    rw [hC] at hc
    obtain ⟨ys, n', hn', hy, hlen, hyl, hf⟩ := DataW.trod_struct he ht'
    obtain ⟨_, hcl, hat⟩ := World.cells?_some hc
    simp only [Prod.mk.injEq] at hy
    refine ⟨ys, n', hy.1, hy.2, hyl, fun j f hj => ?_⟩
    obtain ⟨ho, hk⟩ := hone_of hone j f hj
    have hjl : j < fs.size := (Array.getElem?_eq_some_iff.1 hj).1
    have hcell := hat j hjl
    have h1 := hf j f hj
    rw [ho, hk] at h1
    have hone' : (cs'.drop j).take 1 = [cs'[j]'(by omega)] := by
      rw [List.drop_eq_getElem_cons (by omega)]
      rfl
    rw [hone'] at h1
    have hys : ys[j]? = some (ys[j]'(by omega)) := List.getElem?_eq_getElem (by omega)
    refine ⟨_, _, ?_, hys, h1.trans hys⟩
    rw [← Go.Deep.add_add, hcell, List.getElem?_eq_getElem (by omega)]
theorem open_posts {t e tl el : TypeId} {f0 f1 : Field} {fuel : Nat} {cs : List Value} {x : DataW H × List MemPlace} (ht : P.underlying t = some (.slice e)) (he : P.underlying e = some (.struct #[f0, f1]))
    (hone : oneCellFields P #[f0, f1] = true) (hC : P.cellsOf e = 2)
    (k0 : P.underlying f0.type = some (.int .i64)) (k1 : f1.type = tl) (kl : P.underlying tl = some (.slice el)) (ke : P.underlying el = some (.int .i64)) (kc : P.cellsOf el = 1)
    (h : DataW.trod enc P w base spare held fuel t cs = some x) :
    ∃ (a : Option Addr) (n c : Nat) (ps : List PostV), cs = [.slice a n c] ∧ RdPost w a n ps ∧ n ≤ c ∧ (∀ p ∈ ps, (-9223372036854775808 ≤ p.doc ∧ p.doc ≤ 9223372036854775807) ∧ FitL p.pos) ∧ totalV ps + ps.length + 1 ≤ Rows.uptoBulk x.1 := by
  subst k1
  rcases open_slice_cells ht he hone hC h with ⟨rfl, rfl⟩ | ⟨a, len, cap, m, D, Pl, rfl, hb, hl, hm, hmm, rfl, hx⟩
  · exact ⟨none, 0, 0, [], rfl, ⟨rfl, fun h => by simp at h⟩, Nat.le_refl _, fun o ho => (by cases ho), by simp [Rows.uptoBulk, totalV]⟩
  have hlm : len ≤ m := by rw [hmm]; split <;> omega
  obtain ⟨O, hO⟩ := Go.Deep.choose_lt (α := PostV) (n := len) (p := fun i o => o.pos.length + 1 ≤ Rows.uptoBulk (D i) ∧ ((-9223372036854775808 ≤ o.doc ∧ o.doc ≤ 9223372036854775807) ∧ FitL o.pos) ∧ w.cell? (a.add (i * 2 + 0)) = some (.int .i64 o.doc) ∧ ∃ A C, w.cell? (a.add (i * 2 + 1)) = some (.slice A o.pos.length C) ∧ Rd w (.slice A o.pos.length C) (intL o.pos)) (fun i hi => by
    obtain ⟨ys, n', hD, -, hlen, hf⟩ := hx i (by omega)
    obtain ⟨v0, y0, c0, e0, t0⟩ := hf 0 f0 rfl
    obtain ⟨v1, y1, c1, e1, t1⟩ := hf 1 f1 rfl
    have hy : ∀ y, y ∈ ys → Rows.uptoBulk y.1 ≤ Rows.uptoBulk (D i) := fun y hyy => by
      rw [hD]; simp only [Rows.uptoBulk]
      have := bulk_mem (List.mem_map_of_mem (f := (·.1)) hyy); omega
    obtain ⟨n0, h0, -, w0⟩ := DataW.trod_int k0 t0
    obtain ⟨v', l, h1, hrd, hfl, hbl⟩ := open_intl kl ke kc t1
    simp only [List.cons.injEq, and_true] at h0 h1
    subst h0 h1
    have q1 := hy y1 (List.mem_of_getElem? e1)
    have b0 := bounds_i64 w0
    obtain ⟨A, C, hv, hrest⟩ := hrd
    rw [intL_length] at hv
    subst hv
    refine ⟨⟨n0, l⟩, by show l.length + 1 ≤ _; omega, ⟨⟨by show _ ≤ n0; omega, by show n0 ≤ _; omega⟩, hfl⟩, c0, A, C, c1, ?_⟩
    exact ⟨A, C, by rw [intL_length], hrest⟩)
  refine ⟨some a, len, cap, (List.range len).map O, rfl, ⟨by simp, fun h0 => ?_⟩, hl, fun o ho => ?_, ?_⟩
  · have h00 := (hO 0 (by simp at h0; omega)).2.2.1
    obtain ⟨b, o, sp⟩ := a
    have hs : sp = none := by simpa [Addr.add] using World.cell?_spot h00
    subst hs
    refine ⟨b, o, rfl, fun i hi => ?_⟩
    have hi' : i < len := by simpa using hi
    obtain ⟨-, -, g0, A, C, g1, g2⟩ := hO i hi'
    rw [addr_add] at g0 g1
    have he : ((List.range len).map O)[i] = O i := by simp
    rw [he]
    exact ⟨g0, A, C, g1, g2⟩
  · obtain ⟨i, hi, rfl⟩ := List.mem_map.1 ho
    exact (hO i (by simpa using hi)).2.1
  · have h1 := bulk_total O D len (fun i hi => (hO i hi).1)
    simp only [Rows.uptoBulk, List.length_map, List.length_range] at *
    omega
end
end Go.Proofs.YthnpbfadblcicaaDoor

/- The seven sentinels, as a row's list lays them. -/
namespace Go.Proofs.YthnpbfadblcicaaDoor
set_option linter.unusedVariables false
open Go.ChangeShapes Go.WideShapes Go.ChangeAt Go.RowKit

def errL7 : List (Nat × String × List UInt8) := [(1, "concord/api.ErrShort", [99, 111, 110, 99, 111, 114, 100, 58, 32, 116, 111, 111, 32, 115, 104, 111, 114, 116]), (2, "concord/api.ErrVarint", [99, 111, 110, 99, 111, 114, 100, 58, 32, 118, 97, 114, 105, 110, 116]), (3, "concord/api.ErrLimit", [99, 111, 110, 99, 111, 114, 100, 58, 32, 108, 105, 109, 105, 116]), (4, "concord/api.ErrOrder", [99, 111, 110, 99, 111, 114, 100, 58, 32, 111, 114, 100, 101, 114]), (5, "concord/api.ErrTail", [99, 111, 110, 99, 111, 114, 100, 58, 32, 116, 97, 105, 108]), (8, "concord/api.ErrRange", [99, 111, 110, 99, 111, 114, 100, 58, 32, 114, 97, 110, 103, 101]), (10, "concord/api.ErrCorrupt", [99, 111, 110, 99, 111, 114, 100, 58, 32, 99, 111, 114, 114, 117, 112, 116])]
def errL6 : List (Nat × String × List UInt8) := errL7.filter fun x => x.1 != 8
theorem sent6_of {W : World} {EA : Nat → Addr} (h : Errs W EA (errL6.map fun x => (x.1, x.2.1))) : Sent6 W EA where
  c1 := h.cell (k := 1) (n := "concord/api.ErrShort") (by decide) (by kernel_rfl)
  c2 := h.cell (k := 2) (n := "concord/api.ErrVarint") (by decide) (by kernel_rfl)
  c3 := h.cell (k := 3) (n := "concord/api.ErrLimit") (by decide) (by kernel_rfl)
  c4 := h.cell (k := 4) (n := "concord/api.ErrOrder") (by decide) (by kernel_rfl)
  c5 := h.cell (k := 5) (n := "concord/api.ErrTail") (by decide) (by kernel_rfl)
  c10 := h.cell (k := 10) (n := "concord/api.ErrCorrupt") (by decide) (by kernel_rfl)
theorem sent7_of {W : World} {EA : Nat → Addr} (h : Errs W EA (errL7.map fun x => (x.1, x.2.1))) : Sent7 W EA where
  s6 := {
    c1 := h.cell (k := 1) (n := "concord/api.ErrShort") (by decide) (by kernel_rfl)
    c2 := h.cell (k := 2) (n := "concord/api.ErrVarint") (by decide) (by kernel_rfl)
    c3 := h.cell (k := 3) (n := "concord/api.ErrLimit") (by decide) (by kernel_rfl)
    c4 := h.cell (k := 4) (n := "concord/api.ErrOrder") (by decide) (by kernel_rfl)
    c5 := h.cell (k := 5) (n := "concord/api.ErrTail") (by decide) (by kernel_rfl)
    c10 := h.cell (k := 10) (n := "concord/api.ErrCorrupt") (by decide) (by kernel_rfl) }
  c8 := h.cell (k := 8) (n := "concord/api.ErrRange") (by decide) (by kernel_rfl)
end Go.Proofs.YthnpbfadblcicaaDoor
