/- The walks of a pattern's machine: start, accepts, step. -/
import Derived.Test.YtejmjjgbbojfbaaDoorWild
namespace Go.Proofs.YtejmjjgbbojfbaaDoor
set_option linter.unusedVariables false
open Go.ChangeShapes Go.WideShapes Go.ChangeAt Go.RowKit

theorem RdE.rl {w : World} {v : Value} {es : List PEl} (h : RdE w v es) {base : Nat} {w1 : World} (hb : Below w.heap.size w w1) (hB : w.heap.size ≤ base) : RdL base w1 v es :=
  fun w' hb' => h.below (hb.trans (hb'.mono hB))
set_option maxRecDepth 100000 in
set_option maxHeartbeats 1000000 in
theorem wstart_any (w : World) (a : Option Addr) (n ca : Nat) (es : List PEl) (hr : RdE w (.slice a n ca) es) (hes : es.length ≤ 1000000000) :
    Calls Tryd.prog 115 #[.agg #[.slice a n ca]] w fun e w' => e = .returned (.string (strB (startL es))) ∧ Below w.heap.size w w' := by
  obtain rfl := hr.k.1
  obtain ⟨N, hN⟩ : ∃ N, N = es.length + 1 := ⟨_, rfl⟩
  have HN := Lib.hid hN
  have q1 : (es.length : Int) + 1 = (N : Int) := by omega
  have q2 : (N : Int) ≤ 1000000001 := by omega
  have q3 : N ≤ 1000000000000 := by omega
  have q4 : 0 < N := by omega
  clear hN
  obtain ⟨ob, hob⟩ : ∃ ob, ob = Obj.cells #[.slice a es.length ca] 93 := ⟨_, rfl⟩
  obtain ⟨om, hom⟩ : ∃ om, om = Obj.cells ((madeCells #[.int .u8 0] N).setIfInBounds 0 (.int .u8 1)) 5 := ⟨_, rfl⟩
  have hb2 : Below w.heap.size w ((w.alloc ob).alloc om) := ((Below.refl _ _).alloc (Nat.le_refl _) _).alloc (by simp) _
  have hs1 : (w.alloc ob).heap.size = w.heap.size + 1 := by simp
  have hmc : (madeCells #[.int .u8 0] N).setIfInBounds 0 (.int .u8 1) = (setV ((List.replicate N false).set 0 true)).toArray := by
    rw [madeB, ← setV_set]; simp
  have ho2 : Own ((w.alloc ob).alloc om) (w.heap.size + 1) 5 (.slice (some ⟨w.heap.size + 1, 0, none⟩) N N) (setV ((List.replicate N false).set 0 true)) := by
    have h := own_lit (w.alloc ob) (w.heap.size + 1) 5 (setV ((List.replicate N false).set 0 true)) (by rw [hs1]; exact Nat.le_refl _) (by rw [setV_length]; simp [maxLen]; omega)
    rw [← hmc, ← hom, hs1, setV_length, List.length_set, List.length_replicate] at h
    exact h
  have hl2 : ((List.replicate N false).set 0 true).length = N := by simp
  have hrl : RdL (w.heap.size + 1) ((w.alloc ob).alloc om) (.slice a es.length ca) es := hr.rl hb2 (by omega)
  have C1 := close_any ((w.alloc ob).alloc om) (w.heap.size + 1) (w.heap.size + 1) N a es.length ca es _ hrl (by rw [hl2]; exact ho2) (by rw [hl2]; exact HN.out) (by simp) (by omega)
  rw [hl2] at C1
  have hst : closeI es ((List.replicate N false).set 0 true) es.length = startL es := by unfold startL; rw [HN.out]
  rw [hst] at C1
  have HB2 := Lib.hid hb2
  have HS1 := Lib.hid hs1
  have HOB := Lib.hid hob
  have HOM := Lib.hid hom
  have hc0 : (((w.alloc ob).alloc (.cells (madeCells #[.int .u8 0] N) 5))).cell? ⟨w.heap.size + 1, 0, none⟩ = some (.int .u8 0) := by
    have h := heap_alloc_new (w.alloc ob) (.cells (madeCells #[.int .u8 0] N) 5)
    rw [hs1] at h
    rw [blk_cell h 0, madeB]
    have := setV_get (s := List.replicate N false) (i := 0) (by simp; omega)
    rw [List.getD_eq_getElem?_getD, List.getElem?_replicate] at this
    simpa [q4] using this
  rw [hob] at hc0
  rw [hob, hom] at C1
  clear hrl hl2 hb2 ho2 hs1 hr hst hob hom hmc
  have hmk := fun (w : World) => make_row elBytes rfl N q3 (N : Int) rfl w
  go_enter Tryd.func115, Tryd.ntmps115
  go_wp2_with fail
  refine C1.mono ?_
  rintro e w2 ⟨rfl, ho3, he3⟩
  rw [← HOB.out, ← HOM.out] at he3
  have hb3 := HB2.out.trans (he3.below (B := w.heap.size) (fun k hk => by subst hk; omega) HB2.out.size)
  have r4 := run_str (P := Tryd.prog) Tryd.underlying26 Tryd.underlying5 Tryd.underlying9 ho3.rd
  have HB3 := Lib.hid hb3
  clear C1 ho3 he3 hb3
  go_wp2
  go_ret
  exact ⟨rfl, HB3.out⟩

set_option maxRecDepth 100000 in
theorem wacc_any (w : World) (a : Option Addr) (n ca : Nat) (es : List PEl) (hr : RdE w (.slice a n ca) es) (hes : es.length ≤ 1000000000) (d : ByteArray) (D : List Bool) (hd : d = strB D) (hD : D.length = es.length + 1) :
    Calls Tryd.prog 114 #[.agg #[.slice a n ca], .string d] w fun e w' => e = .returned (.bool (D.getD es.length false)) ∧ Below w.heap.size w w' := by
  obtain rfl := hr.k.1
  have hsz : d.size = es.length + 1 := by rw [hd, strB, strOf_size, bitsB_length, hD]
  have hlt : es.length < d.size := by omega
  have hix : ((d[es.length]'hlt).toNat : Int) = if D.getD es.length false then 1 else 0 := by
    have e : d.data.toList = bitsB D := by rw [hd]; unfold strB strOf; rw [List.toList_toArray]
    have e2 : d[es.length]'hlt = d.data.toList[es.length]'(by rw [e, bitsB_length]; omega) := rfl
    have e3 : (bitsB D)[es.length]? = some (bitB (D.getD es.length false)) := by
      unfold bitsB; rw [List.getElem?_map, List.getElem?_eq_getElem (by omega), List.getD_eq_getElem?_getD, List.getElem?_eq_getElem (by omega)]; rfl
    have e4 : (d.data.toList)[es.length]? = some (bitB (D.getD es.length false)) := by rw [e]; exact e3
    have e5 := List.getElem?_eq_some_iff.1 e4
    obtain ⟨_, e6⟩ := e5
    rw [e2, e6]
    cases D.getD es.length false <;> rfl
  obtain ⟨bb, hbb⟩ : ∃ bb, D.getD es.length false = bb := ⟨_, rfl⟩
  rw [hbb] at hix ⊢
  have HB := Lib.hid (fun o => (Below.refl w.heap.size w).alloc (Nat.le_refl _) o)
  clear hd hD hsz hbb hr
  cases bb with
  | false =>
    simp only [Bool.false_eq_true, if_false] at hix
    go_enter Tryd.func114, Tryd.ntmps114
    go_wp2
    go_ret
    exact ⟨rfl, HB.out _⟩
  | true =>
    simp only [if_true] at hix
    go_enter Tryd.func114, Tryd.ntmps114
    go_wp2
    go_ret
    exact ⟨rfl, HB.out _⟩
end Go.Proofs.YtejmjjgbbojfbaaDoor
