/- Arguments that are lists of entries, lists of questions: opened. -/
import Derived.Test.YtfeldllcpeibcaaDoorOpen
import Derived.Test.YtfeldllcpeibcaaDoorEnt
import Derived.Deep.Fields
import Derived.ChangeSame
namespace Go.Proofs.YtfeldllcpeibcaaDoor
set_option linter.unusedVariables false
open Go.ChangeShapes Go.WideShapes Go.ChangeAt Go.RowKit Go.Deep
theorem bulk_mem {H : Type} {d : DataW H} {l : List (DataW H)} (h : d ∈ l) : Rows.uptoBulk d ≤ Rows.uptoBulkAll l := by
  induction l with
  | nil => cases h
  | cons x r ih =>
    simp only [Rows.uptoBulkAll]
    rcases List.mem_cons.1 h with rfl | h
    · omega
    · have := ih h; omega
/-- A question. -/
structure AskV where
  kd : Int
  i : Int
  s : ByteArray
def AskV.cells (q : AskV) : List Value := [.int .i64 q.kd, .int .i64 q.i, .string q.s]
instance : Inhabited AskV := ⟨⟨0, 0, default⟩⟩
instance : Inhabited EntV := ⟨⟨default, 0, 0, 0, 0⟩⟩
/-- A list of questions that reads. -/
def RdAsk (w : World) (a : Option Addr) (n : Nat) (qs : List AskV) : Prop :=
  n = qs.length ∧ (0 < qs.length → ∃ b o, a = some ⟨b, o, none⟩ ∧ ∀ (i : Nat) (h : i < qs.length) (j : Nat) (v : Value), (qs[i]).cells[j]? = some v → w.cell? ⟨b, o + i * 3 + j, none⟩ = some v)
section
variable {H : Type} {enc : TypeId × Value → H} {P : Program} {w : World} {base : Nat} {spare : Nat → Bool} {held : Bool}
theorem open_slice_cells {t e : TypeId} {fs : Array Field} {fuel : Nat} {cs : List Value} {x : DataW H × List MemPlace} (ht : P.underlying t = some (.slice e)) (he : P.underlying e = some (.struct fs))
    (hone : oneCellFields P fs = true) (hC : P.cellsOf e = fs.size) (h : DataW.trod enc P w base spare held fuel t cs = some x) :
    (cs = [.slice none 0 0] ∧ x = (.nil, [])) ∨
    ∃ (a : Addr) (len cap m : Nat) (D : Nat → DataW H) (Pl : Nat → List MemPlace), cs = [.slice (some a) len cap] ∧ base ≤ a.block ∧ len ≤ cap ∧ cap ≤ maxLen ∧ m = (if spare a.block then cap else len) ∧
      x = (.slice ((List.range len).map D) ((List.range (m - len)).map fun j => D (len + j)), MemPlace.row a (m * fs.size) ++ (List.range m).flatMap Pl) ∧
      ∀ i, i < m → ∃ (ys : List (DataW H × List MemPlace)) (n : Nat), D i = .agg (ys.map (·.1)) ∧ Pl i = ys.flatMap (·.2) ∧ ys.length = fs.size ∧
        ∀ (j : Nat) (f : Field), fs[j]? = some f → ∃ (v : Value) (y : DataW H × List MemPlace), w.cell? (a.add (i * fs.size + j)) = some v ∧ ys[j]? = some y ∧ DataW.trod enc P w base spare held n f.type [v] = some y := by
  rcases open_slice ht h with h0 | ⟨a, len, cap, m, n, D, Pl, hcs, hb, hl, hm, hmm, hx, hi⟩
  · exact .inl h0
  · refine .inr ⟨a, len, cap, m, D, Pl, hcs, hb, hl, hm, hmm, by rw [hC] at hx; exact hx, fun i him => ?_⟩
    obtain ⟨cs', hc, ht'⟩ := hi i him
    rw [hC] at hc
    obtain ⟨ys, n', hn', hy, hlen, hyl, hf⟩ := DataW.trod_struct he ht'
    obtain ⟨_, hcl, hat⟩ := World.cells?_some hc
    simp only [Prod.mk.injEq] at hy
    refine ⟨ys, n', hy.1, hy.2, hyl, fun j f hj => ?_⟩
    obtain ⟨ho, hk⟩ := hone_of hone j f hj
    have hjl : j < fs.size := (Array.getElem?_eq_some_iff.1 hj).1
    have hcell := hat j hjl
    have h1 := hf j f hj
    rw [ho, hk] at h1
    have hone' : (cs'.drop j).take 1 = [cs'[j]'(by omega)] := by
      rw [List.drop_eq_getElem_cons (by omega)]
      rfl
    rw [hone'] at h1
    have hys : ys[j]? = some (ys[j]'(by omega)) := List.getElem?_eq_getElem (by omega)
    refine ⟨_, _, ?_, hys, h1.trans hys⟩
    rw [← Go.Deep.add_add, hcell, List.getElem?_eq_getElem (by omega)]
theorem open_ents {t e : TypeId} {f0 f1 f2 f3 f4 : Field} {fuel : Nat} {cs : List Value} {x : DataW H × List MemPlace} (ht : P.underlying t = some (.slice e)) (he : P.underlying e = some (.struct #[f0, f1, f2, f3, f4]))
    (hone : oneCellFields P #[f0, f1, f2, f3, f4] = true) (hC : P.cellsOf e = 5)
    (k0 : P.underlying f0.type = some .string) (k1 : P.underlying f1.type = some (.int .i64)) (k2 : P.underlying f2.type = some (.int .i64)) (k3 : P.underlying f3.type = some (.int .i64)) (k4 : P.underlying f4.type = some (.int .i64))
    (h : DataW.trod enc P w base spare held fuel t cs = some x) :
    ∃ (a : Option Addr) (n c : Nat) (es : List EntV), cs = [.slice a n c] ∧ RdEnt w a n es ∧ n ≤ c ∧ (∀ e ∈ es, e.k.size + 1 ≤ Rows.uptoBulk x.1) ∧ es.length + 1 ≤ Rows.uptoBulk x.1 := by
  rcases open_slice_cells ht he hone hC h with ⟨rfl, rfl⟩ | ⟨a, len, cap, m, D, Pl, rfl, hb, hl, hm, hmm, rfl, hx⟩
  · exact ⟨none, 0, 0, [], rfl, ⟨rfl, fun h => by simp at h⟩, Nat.le_refl _, fun o ho => (by cases ho), by simp [Rows.uptoBulk]⟩
  have hlm : len ≤ m := by rw [hmm]; split <;> omega
  obtain ⟨O, hO⟩ := Go.Deep.choose_lt (α := EntV) (n := len) (p := fun i o => o.k.size + 1 ≤ Rows.uptoBulk (D i) ∧ ∀ j v, o.cells[j]? = some v → w.cell? (a.add (i * 5 + j)) = some v) (fun i hi => by
    obtain ⟨ys, n', hD, -, hlen, hf⟩ := hx i (by omega)
    obtain ⟨v0, y0, c0, e0, t0⟩ := hf 0 f0 rfl
    obtain ⟨v1, y1, c1, e1, t1⟩ := hf 1 f1 rfl
    obtain ⟨v2, y2, c2, e2, t2⟩ := hf 2 f2 rfl
    obtain ⟨v3, y3, c3, e3, t3⟩ := hf 3 f3 rfl
    obtain ⟨v4, y4, c4, e4, t4⟩ := hf 4 f4 rfl
    have hy : ∀ y, y ∈ ys → Rows.uptoBulk y.1 ≤ Rows.uptoBulk (D i) := fun y hyy => by
      rw [hD]; simp only [Rows.uptoBulk]
      have := bulk_mem (List.mem_map_of_mem (f := (·.1)) hyy); omega
    obtain ⟨s0, h0, q0, -⟩ := DataW.trod_string k0 t0
    obtain ⟨n1, h1, -, w1⟩ := DataW.trod_int k1 t1
    obtain ⟨n2, h2, -, w2⟩ := DataW.trod_int k2 t2
    obtain ⟨n3, h3, -, w3⟩ := DataW.trod_int k3 t3
    obtain ⟨n4, h4, -, w4⟩ := DataW.trod_int k4 t4
    have q0' := hy y0 (List.mem_of_getElem? e0)
    simp only [List.cons.injEq, and_true] at h0 h1 h2 h3 h4
    subst h0 h1 h2 h3 h4
    refine ⟨⟨s0, n1, n2, n3, n4⟩, ?_, ?_⟩
    · have : s0.size = s0.data.toList.length := (Array.length_toList (xs := s0.data)).symm
      rw [q0] at q0'; simp only [Rows.uptoBulk] at q0'; show s0.size + 1 ≤ _; omega
    · intro j v hv
      have hj : j < 5 := (List.getElem?_eq_some_iff.1 hv).1
      have hjj : j = 0 ∨ j = 1 ∨ j = 2 ∨ j = 3 ∨ j = 4 := by omega
      rcases hjj with rfl | rfl | rfl | rfl | rfl
      · rw [← Option.some.inj hv]; exact c0
      · rw [← Option.some.inj hv]; exact c1
      · rw [← Option.some.inj hv]; exact c2
      · rw [← Option.some.inj hv]; exact c3
      · rw [← Option.some.inj hv]; exact c4)
  refine ⟨some a, len, cap, (List.range len).map O, rfl, ⟨by simp, fun h0 => ?_⟩, hl, fun o ho => ?_, ?_⟩
  · have h00 := (hO 0 (by simp at h0; omega)).2 0 _ rfl
    obtain ⟨b, o, sp⟩ := a
    have hs : sp = none := by simpa [Addr.add] using World.cell?_spot h00
    subst hs
    refine ⟨b, o, rfl, fun i hi j v hv => ?_⟩
    have hi' : i < len := by simpa using hi
    have h2 := (hO i hi').2 j v (by simpa using hv)
    rw [addr_add] at h2
    rw [Nat.add_assoc]; exact h2
  · obtain ⟨i, hi, rfl⟩ := List.mem_map.1 ho
    have hi' : i < len := by simpa using hi
    have hbk : Rows.uptoBulk (D i) ≤ Rows.uptoBulk (DataW.slice ((List.range len).map D) ((List.range (m - len)).map fun j => D (len + j))) := by
      have := bulk_mem (List.mem_map_of_mem (f := D) (List.mem_range.2 hi'))
      simp only [Rows.uptoBulk]; omega
    exact Nat.le_trans (hO i hi').1 hbk
  · have h1 := bulk_length ((List.range len).map D)
    simp only [Rows.uptoBulk, List.length_map, List.length_range] at *
    omega
theorem open_asks {t e : TypeId} {f0 f1 f2 : Field} {fuel : Nat} {cs : List Value} {x : DataW H × List MemPlace} (ht : P.underlying t = some (.slice e)) (he : P.underlying e = some (.struct #[f0, f1, f2]))
    (hone : oneCellFields P #[f0, f1, f2] = true) (hC : P.cellsOf e = 3)
    (k0 : P.underlying f0.type = some (.int .i64)) (k1 : P.underlying f1.type = some (.int .i64)) (k2 : P.underlying f2.type = some .string)
    (h : DataW.trod enc P w base spare held fuel t cs = some x) :
    ∃ (a : Option Addr) (n c : Nat) (qs : List AskV), cs = [.slice a n c] ∧ RdAsk w a n qs ∧ n ≤ c ∧ (∀ q ∈ qs, q.i ≤ 9223372036854775807) ∧ qs.length + 1 ≤ Rows.uptoBulk x.1 := by
  rcases open_slice_cells ht he hone hC h with ⟨rfl, rfl⟩ | ⟨a, len, cap, m, D, Pl, rfl, hb, hl, hm, hmm, rfl, hx⟩
  · exact ⟨none, 0, 0, [], rfl, ⟨rfl, fun h => by simp at h⟩, Nat.le_refl _, fun o ho => (by cases ho), by simp [Rows.uptoBulk]⟩
  have hlm : len ≤ m := by rw [hmm]; split <;> omega
  obtain ⟨O, hO⟩ := Go.Deep.choose_lt (α := AskV) (n := len) (p := fun i o => o.i ≤ 9223372036854775807 ∧ ∀ j v, o.cells[j]? = some v → w.cell? (a.add (i * 3 + j)) = some v) (fun i hi => by
    obtain ⟨ys, n', hD, -, hlen, hf⟩ := hx i (by omega)
    obtain ⟨v0, y0, c0, e0, t0⟩ := hf 0 f0 rfl
    obtain ⟨v1, y1, c1, e1, t1⟩ := hf 1 f1 rfl
    obtain ⟨v2, y2, c2, e2, t2⟩ := hf 2 f2 rfl
    obtain ⟨n0, h0, -, w0⟩ := DataW.trod_int k0 t0
    obtain ⟨n1, h1, -, w1⟩ := DataW.trod_int k1 t1
    obtain ⟨s2, h2, -, -⟩ := DataW.trod_string k2 t2
    simp only [List.cons.injEq, and_true] at h0 h1 h2
    subst h0 h1 h2
    have b1 := bounds_i64 w1
    refine ⟨⟨n0, n1, s2⟩, b1.2, ?_⟩
    intro j v hv
    have hj : j < 3 := (List.getElem?_eq_some_iff.1 hv).1
    have hjj : j = 0 ∨ j = 1 ∨ j = 2 := by omega
    rcases hjj with rfl | rfl | rfl
    · rw [← Option.some.inj hv]; exact c0
    · rw [← Option.some.inj hv]; exact c1
    · rw [← Option.some.inj hv]; exact c2)
  refine ⟨some a, len, cap, (List.range len).map O, rfl, ⟨by simp, fun h0 => ?_⟩, hl, fun o ho => ?_, ?_⟩
  · have h00 := (hO 0 (by simp at h0; omega)).2 0 _ rfl
    obtain ⟨b, o, sp⟩ := a
    have hs : sp = none := by simpa [Addr.add] using World.cell?_spot h00
    subst hs
    refine ⟨b, o, rfl, fun i hi j v hv => ?_⟩
    have hi' : i < len := by simpa using hi
    have h2 := (hO i hi').2 j v (by simpa using hv)
    rw [addr_add] at h2
    rw [Nat.add_assoc]; exact h2
  · obtain ⟨i, hi, rfl⟩ := List.mem_map.1 ho
    exact (hO i (List.mem_range.1 hi)).1
  · have h1 := bulk_length ((List.range len).map D)
    simp only [Rows.uptoBulk, List.length_map, List.length_range] at *
    omega
end
end Go.Proofs.YtfeldllcpeibcaaDoor
