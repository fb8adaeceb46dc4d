/- dict: Heads. -/
import Derived.Test.YtfeldllcpeibcaaDoorRef6I
namespace Go.Proofs.YtfeldllcpeibcaaDoor
set_option linter.unusedVariables false
open Go.ChangeShapes Go.WideShapes Go.ChangeAt Go.RowKit

set_option maxRecDepth 100000 in
set_option maxHeartbeats 1000000 in
theorem headsc_any (W : World) (base q bd bf bk : Nat) (v : Value) (es : List EntV) (hD : DictAt W base q v es) (key : ByteArray) (s : Nat) (hd : W.cell? ⟨bd, 0, none⟩ = some (.pointer (some ⟨q, 0, none⟩))) (hf : W.cell? ⟨bf, 0, none⟩ = some (.int .i64 s)) (hk : W.cell? ⟨bk, 0, none⟩ = some (.string key))
    (i : Nat) (hi : s + i < es.length) (hel : es.length ≤ 1000000000) :
    Calls Tryd.prog 56 #[.int .i64 i, .pointer (some ⟨bd, 0, none⟩), .pointer (some ⟨bf, 0, none⟩), .pointer (some ⟨bk, 0, none⟩)] W fun e w' => e = .returned (.bool (!pre key.data.toList (keyAt es (s + i)).data.toList)) ∧ ∃ m, w' = W.drewN m := by
  obtain ⟨a, c, rfl, hc, hat⟩ := hD.sl
  obtain ⟨g, rfl, hg⟩ := hat (s + i) hi
  have hgk := (hg).k
  rw [← keyAt_eq es (s + i) hi] at hgk
  generalize keyAt es (s + i) = ky at hgk ⊢
  have i0 : ((s : Int) + (i : Int)) = ((s + i : Nat) : Int) := rfl
  obtain ⟨x, hx⟩ : ∃ x, s + i = x := ⟨_, rfl⟩
  have w1 : IntKind.i64.wrap ((s : Int) + (i : Int)) = (x : Int) := by rw [i0, hx, IntKind.wrap_i64]; omega
  rw [hx] at hgk hi
  have i1 : (x : Int) < (es.length : Int) := by omega
  have tx := ext_take ky key.size
  have tk2 := ba_list key
  have hkl : key.data.toList.length = key.size := Array.length_toList (xs := key.data)
  have hkl2 : ky.data.toList.length = ky.size := Array.length_toList (xs := ky.data)
  obtain ⟨P, hP⟩ : ∃ P, pre key.data.toList ky.data.toList = P := ⟨_, rfl⟩
  rw [hP]
  by_cases hsz : key.size ≤ ky.size
  · have t0 : decide (ky.size < key.size) = false := decide_eq_false (by omega)
    have t1 : ((ky.extract 0 key.size).toList == key.toList) = P := by
      rw [tx, tk2, ← hP]; unfold pre
      rw [hkl, hkl2, decide_eq_true hsz, Bool.true_and]
    clear tx tk2 hkl hkl2 hP hg hat hD hx i0
    go_enter Tryd.func56, Tryd.ntmps56
    go_wp2
    go_quiet (fail)
    go_wp2
    go_quiet (fail)
    go_wp2
    go_ret
    exact ⟨rfl, _, World.drewN_drewN ..⟩
  · have t0 : decide (ky.size < key.size) = true := decide_eq_true (by omega)
    have hPf : P = false := by
      rw [← hP]; unfold pre
      rw [hkl, hkl2, decide_eq_false hsz, Bool.false_and]
    subst hPf
    clear tx tk2 hkl hkl2 hP hg hat hD hx i0
    go_enter Tryd.func56, Tryd.ntmps56
    go_wp2
    go_quiet (fail)
    go_wp2
    go_quiet (fail)
    go_wp2
    go_ret
    exact ⟨rfl, _, World.drewN_drewN ..⟩
set_option maxRecDepth 100000 in
set_option maxHeartbeats 1000000 in
theorem heads_any (w : World) (base q : Nat) (v : Value) (es : List EntV) (hD : DictAt w base q v es) (hr : rising none es) (hel : es.length ≤ 1000000000) (key : ByteArray) :
    Calls Tryd.prog 29 #[.pointer (some ⟨q, 0, none⟩), .string key] w fun e w' => e = .returned (.tuple #[.int .i64 (seekP es key.data.toList : Nat), .int .i64 (seekP es key.data.toList + headsN es key.data.toList : Nat)]) ∧ Below w.heap.size w w' := by
  have hmf : ∀ (fn : Fn) (first cap : Array Value) (w : World), (Instr.makeFunc fn first cap).run Tryd.prog w = .ok (.func fn first cap) w := fun _ _ _ _ => rfl
  obtain ⟨w2, hw2⟩ : ∃ w2, w2 = (w.alloc (.cells #[.pointer (some ⟨q, 0, none⟩)] 24)).alloc (.cells #[.string key] 9) := ⟨_, rfl⟩
  have hb2 : Below w.heap.size w w2 := by rw [hw2]; exact ((Below.refl _ _).alloc (Nat.le_refl _) _).alloc (by simp) _
  have hz2 : w2.heap.size = w.heap.size + 1 + 1 := by rw [hw2]; simp
  have hD2 := hD.below hb2 (Nat.le_refl _)
  have c1 : w2.heap[w.heap.size]? = some (.cells #[.pointer (some ⟨q, 0, none⟩)] 24 (0, 0)) := by rw [hw2]; exact (Below.heap_alloc _ _ _ (by simp)).trans (heap_alloc_new w _)
  have c2 : w2.heap[w.heap.size + 1]? = some (.cells #[.string key] 9 (0, 0)) := by
    rw [hw2]; have := heap_alloc_new (w.alloc (.cells #[.pointer (some ⟨q, 0, none⟩)] 24)) (.cells #[.string key] 9); rwa [World.size_alloc] at this
  have C1 := seek_any w2 base q v es hD2 hr hel key
  have hle := headsN_le es key.data.toList
  have hin := fun t h h1 h2 => heads_in es key.data.toList t h h1 h2
  have hhi := fun t h ht => heads_out hr key.data.toList t h ht
  obtain ⟨S, hS⟩ : ∃ S, seekP es key.data.toList = S := ⟨_, rfl⟩
  obtain ⟨B, hB⟩ : ∃ B, headsN es key.data.toList = B := ⟨_, rfl⟩
  rw [hS] at hle hin hhi C1 ⊢
  rw [hB] at hle hin hhi ⊢
  have HIN := Lib.hid hin
  have HHI := Lib.hid hhi
  have HB2 := Lib.hid hb2
  have HD2 := Lib.hid hD2
  have HC1 := Lib.hid c1
  have HC2 := Lib.hid c2
  have HZ2 := Lib.hid hz2
  rw [hw2] at C1
  have HW2 := Lib.hid hw2
  clear hin hhi hS hB hr hD hD2 hb2 c1 c2 hz2 hw2
  go_enter Tryd.func29, Tryd.ntmps29
  go_wp2_with fail
  refine C1.mono ?_
  rintro e w3 ⟨rfl, hb3⟩
  clear C1
  rw [← HW2.out] at hb3
  have hd3 := HD2.out.below hb3 (Nat.le_refl _)
  have hb03 := HB2.out.trans (hb3.mono HB2.out.size)
  have hz3 := hb3.size
  rw [HZ2.out] at hz3
  obtain ⟨W4, hW4⟩ : ∃ W4, W4 = w3.alloc (.cells #[.int .i64 S] 3) := ⟨_, rfl⟩
  have hb4 : Below w3.heap.size w3 W4 := by rw [hW4]; exact (Below.refl _ _).alloc (Nat.le_refl _) _
  have hd4 := hd3.below hb4 (Nat.le_refl _)
  have hb04 := hb03.trans (hb4.mono hb03.size)
  have d1 : W4.cell? ⟨w.heap.size, 0, none⟩ = some (.pointer (some ⟨q, 0, none⟩)) := blk_cell ((hb4.block _ (by omega)).trans ((hb3.block _ (by rw [HZ2.out]; omega)).trans HC1.out)) 0
  have d2 : W4.cell? ⟨w.heap.size + 1, 0, none⟩ = some (.string key) := blk_cell ((hb4.block _ (by omega)).trans ((hb3.block _ (by rw [HZ2.out]; omega)).trans HC2.out)) 0
  have d3 : W4.cell? ⟨w3.heap.size, 0, none⟩ = some (.int .i64 S) := by rw [hW4]; exact blk_cell (heap_alloc_new w3 _) 0
  have C2 := fun m => (search_any 56 #[.pointer (some ⟨w.heap.size, 0, none⟩), .pointer (some ⟨w3.heap.size, 0, none⟩), .pointer (some ⟨w.heap.size + 1, 0, none⟩)] (es.length - S) B (fun i => !pre key.data.toList (keyAt es (S + i)).data.toList) (W4.drewN m) (fun args w => by
      have h1 : Tryd.prog.funcs[(56 : Nat)]? = some Tryd.f56 := by kernel_rfl
      simp [callFunc, h1, mark]; first | rfl | (kernel_rfl)) (by omega)
    (fun k i hi => (headsc_any ((W4.drewN m).drewN k) base q w.heap.size w3.heap.size (w.heap.size + 1) _ es ((hd4.drewN m).drewN k) key S d1 d3 d2 i (by omega) hel).mono (fun _ _ ⟨he, n, hn⟩ => ⟨he, k + n, by rw [hn, World.drewN_drewN]⟩))
    (by omega) (fun t ht => by rw [keyAt_eq es (S + t) (by omega)]; have := HIN.out (S + t) (by omega) (by omega) (by omega); unfold EntV.K at this; rw [this]; rfl)
    (fun t h1 h2 => by rw [keyAt_eq es (S + t) (by omega)]; have := HHI.out (S + t) (by omega) (by omega); unfold EntV.K at this; rw [this]; rfl)).mono
      (R' := fun e w' => e = .returned (.int .i64 B) ∧ ∃ q, w' = W4.drewN q) (fun _ _ ⟨he, n, hn⟩ => ⟨he, m + n, by rw [hn, World.drewN_drewN]⟩)
  rw [show (((es.length - S : Nat)) : Int) = (es.length : Int) - (S : Int) by omega] at C2
  obtain ⟨a, c, rfl, hc, hat⟩ := hd4.sl
  have HB4 := Lib.hid hb04
  have HW4 := Lib.hid hW4
  rw [hW4] at C2 hc d1 d2 d3
  have hSl : S + B ≤ 1000000000 := by omega
  clear hb3 hd3 hb03 hz3 hb4 hd4 hb04 hat hW4
  go_upto_region 2 with fail
  go_quiet ((go_at_call 54; with_reducible exact C2 _))
  clear C2
  go_wp2
  go_quiet (fail)
  go_wp2
  go_ret2
  rw [← HW4.out]
  exact ⟨rfl, below_drewN (below_drewN HB4.out _) _⟩
end Go.Proofs.YtfeldllcpeibcaaDoor
