/- dict: Open. -/
import Derived.Test.YtejmjjgbbojfbaaDoorZDictD
import Derived.Defers
import Derived.Recover
namespace Go.Proofs.YtejmjjgbbojfbaaDoor
set_option linter.unusedVariables false
open Go.ChangeShapes Go.WideShapes Go.ChangeAt Go.RowKit

/-- A dictionary at block q: its entries' slice v, which holds es. -/
structure DictAt (w : World) (base q : Nat) (v : Value) (es : List EntV) : Prop where
  blk : w.heap[q]? = some (.cells #[v] 158 (0, 0))
  hq : base ≤ q
  row : RowE w base v es
theorem DictAt.eff {F : Nat → Prop} {w w' : World} {base q : Nat} {v : Value} {es : List EntV} (h : DictAt w base q v es) (e : Eff F w w') (hF : ∀ k, F k → k < base) : DictAt w' base q v es :=
  ⟨(e.block q (lt_of_heap h.blk) (fun f => by have := hF _ f; have := h.hq; omega)).trans h.blk, h.hq, h.row.eff e (fun k hk f => by have := hF _ f; have := (h.row.lt k hk).1; omega)⟩
theorem DictAt.below {B : Nat} {w w' : World} {base q : Nat} {v : Value} {es : List EntV} (h : DictAt w base q v es) (hb : Below B w w') (hB : w.heap.size ≤ B) : DictAt w' base q v es :=
  ⟨(hb.block q (Nat.lt_of_lt_of_le (lt_of_heap h.blk) hB)).trans h.blk, h.hq, h.row.below hb hB⟩
theorem DictAt.drewN {w : World} {base q : Nat} {v : Value} {es : List EntV} (h : DictAt w base q v es) (d : Nat) : DictAt (w.drewN d) base q v es := ⟨h.blk, h.hq, h.row⟩
theorem DictAt.c0 {w : World} {base q : Nat} {v : Value} {es : List EntV} (h : DictAt w base q v es) : w.cell? ⟨q, 0, none⟩ = some v := blk_cell h.blk 0

theorem opend_panicking (p q : Nat) (x y : Value) (u : TypeId) (pv : Value) (EA : Nat → Addr) (older : List PanicEntry) (w : World) (hp : w.cell? ⟨p, 0, none⟩ = some x) (hpf : w.frozen? ⟨p, 0, none⟩ = false) (hq : w.cell? ⟨q, 0, none⟩ = some y) (hqf : w.frozen? ⟨q, 0, none⟩ = false) (hne : p ≠ q)
    (hC : w.cell? ⟨11, 0, none⟩ = some (errV EA 10)) (hy : y = .nilIface) (hx : x = .pointer none) :
    CallsD Tryd.prog 73 #[.pointer (some ⟨p, 0, none⟩), .pointer (some ⟨q, 0, none⟩)] (.panicking ({ v := .iface u pv, recovered := false } :: older)) w fun e u' w' =>
      e = .returned (.tuple #[]) ∧ u' = .panicking ({ v := .iface u pv, recovered := true } :: older) ∧ w' = (w.setCell ⟨p, 0, none⟩ (.pointer none)).setCell ⟨q, 0, none⟩ (errV EA 10) := by
  subst hx hy
  unfold errV at *
  refine callsD_of_wpS Tryd.func73 rfl fun c₀ cs hu => ?_
  apply wpS_seq
  apply wpS_region
  simp [wpOpsS, go_sem, recoverD, hu, Tryd.ntmps73, Exit.thenS]
  apply wpS_seq
  apply wpS_region
  simp [wpOpsS, go_sem, Exit.thenS]
  refine wpS_cond (t := true) (by simp [Act.eval, Array.replicate]) ?_
  simp only [if_true]
  apply wpS_region
  have hq2 : (w.setCell ⟨p, 0, none⟩ (.pointer none)).cell? ⟨q, 0, none⟩ = some .nilIface := by
    rw [World.cell?_of_block (a := ⟨q, 0, none⟩) (Below.heap_setCell w ⟨p, 0, none⟩ _ q (fun e => hne e.symm))]; exact hq
  have hqf2 : (w.setCell ⟨p, 0, none⟩ (.pointer none)).frozen? ⟨q, 0, none⟩ = false := by rw [World.frozen?_setCell]; exact hqf
  simp [wpOpsS, go_sem, hp, hpf, hq2, hqf2, hC, bodyPostS, results, Tryd.results73]

theorem opend_idle (p q : Nat) (w : World) :
    CallsD Tryd.prog 73 #[.pointer (some ⟨p, 0, none⟩), .pointer (some ⟨q, 0, none⟩)] .returning w fun e u' w' => e = .returned (.tuple #[]) ∧ u' = .returning ∧ w' = w := by
  refine callsD_of_wpS Tryd.func73 rfl fun c₀ cs hu => ?_
  apply wpS_seq
  apply wpS_region
  simp [wpOpsS, go_sem, recoverD, hu, Tryd.ntmps73, Exit.thenS]
  apply wpS_seq
  apply wpS_region
  simp [wpOpsS, go_sem, Exit.thenS]
  refine wpS_cond (t := false) (by simp [Act.eval, Array.replicate]) ?_
  simp only [Bool.false_eq_true, if_false]
  refine wpS_of_wp (wp_skip ?_)
  cases c₀
  simp_all [bodyPostS, results, Tryd.results73]

/-- What Open answers and leaves. -/
def OpenPost (w : World) (EA : Nat → Addr) (res : Option (List EntV)) (e : Ending) (w' : World) : Prop :=
  (∀ l, res = some l → ∃ q v, e = .returned (.tuple #[.pointer (some ⟨q, 0, none⟩), .nilIface]) ∧ DictAt w' w.heap.size q v l ∧ Below w.heap.size w w') ∧
  (res = none → e = .returned (.tuple #[.pointer none, errV EA 10]) ∧ Below w.heap.size w w')
theorem OpenPost.ok {w : World} {EA : Nat → Addr} {res : Option (List EntV)} {e : Ending} {w' : World} {l : List EntV} {q : Nat} {v : Value}
    (hr : res = some l) (he : e = .returned (.tuple #[.pointer (some ⟨q, 0, none⟩), .nilIface])) (h1 : DictAt w' w.heap.size q v l) (h2 : Below w.heap.size w w') : OpenPost w EA res e w' :=
  ⟨fun m hm => by rw [hr] at hm; injection hm with hm; subst hm; exact ⟨q, v, he, h1, h2⟩, fun hn => by rw [hr] at hn; cases hn⟩
theorem OpenPost.no {w : World} {EA : Nat → Addr} {res : Option (List EntV)} {e : Ending} {w' : World}
    (hr : res = none) (he : e = .returned (.tuple #[.pointer none, errV EA 10])) (h2 : Below w.heap.size w w') : OpenPost w EA res e w' :=
  ⟨fun m hm => (by rw [hr] at hm; cases hm), fun _ => ⟨he, h2⟩⟩

set_option maxRecDepth 100000 in
set_option maxHeartbeats 1000000 in
theorem open_any (w : World) (a : Option Addr) (n c : Nat) (bs : List UInt8) (hr : Rd w (.slice a n c) (bytesV bs)) (hn : bs.length ≤ 1000000000) (EA : Nat → Addr) (hE : DErr w EA) :
    Calls Tryd.prog 59 #[.slice a n c] w (OpenPost w EA (parseP bs)) := by
  have hmf : ∀ (fn : Fn) (first cap : Array Value) (w : World), (Instr.makeFunc fn first cap).run Tryd.prog w = .ok (.func fn first cap) w := fun _ _ _ _ => rfl
  obtain ⟨RES, hRES⟩ : ∃ RES, parseP bs = RES := ⟨_, rfl⟩
  rw [hRES]
  have HRES := Lib.hid hRES
  obtain ⟨w2, hw2⟩ : ∃ w2, w2 = (w.alloc (.cells #[.pointer none] 68)).alloc (.cells #[.nilIface] 29) := ⟨_, rfl⟩
  have hb2 : Below w.heap.size w w2 := by rw [hw2]; exact ((Below.refl _ _).alloc (Nat.le_refl _) _).alloc (by simp) _
  have hz2 : w2.heap.size = w.heap.size + 1 + 1 := by rw [hw2]; simp
  have hx2 : w2.heap[w.heap.size]? = some (.cells #[.pointer none] 68 (0, 0)) := by rw [hw2]; exact (Below.heap_alloc _ _ _ (by simp)).trans (heap_alloc_new w _)
  have hy2 : w2.heap[w.heap.size + 1]? = some (.cells #[.nilIface] 29 (0, 0)) := by rw [hw2]; have := heap_alloc_new (w.alloc (.cells #[.pointer none] 68)) (.cells #[.nilIface] 29); rwa [World.size_alloc] at this
  have hr2 := hr.below hb2 (Nat.le_refl _)
  have hE2 := hE.below hb2 hE.lt
  have hG2 : DLow w2.heap.size := hE2.lt
  have C1 := nr_any w2 a n c bs hr2 hn
  have HW2 := Lib.hid hw2
  have HB2 := Lib.hid hb2
  have HZ2 := Lib.hid hz2
  have HX2 := Lib.hid hx2
  have HY2 := Lib.hid hy2
  have HE2 := Lib.hid hE2
  have HG2 := Lib.hid hG2
  rw [hw2] at C1
  clear hRES hw2 hb2 hz2 hx2 hy2 hr2 hE2 hG2 hr hE
  go_enter_defers Tryd.func59, Tryd.ntmps59
  go_wp2_with fail
  refine C1.mono ?_
  rintro e w3 ⟨p, v, rfl, hr3, hb3⟩
  rw [← HW2.out] at hr3 hb3
  clear C1
  have hE3 := HE2.out.below hb3 HG2.out
  have C2 := entriesOf_any w3 w2.heap.size p v bs 0 hr3 EA hE3 HG2.out hb3.size
  rw [List.drop_zero, HRES.out] at C2
  have hx3 := (hb3.block w.heap.size (by rw [HZ2.out]; omega)).trans HX2.out
  have hy3 := (hb3.block (w.heap.size + 1) (by rw [HZ2.out]; omega)).trans HY2.out
  have hpp : w.heap.size + 1 + 1 ≤ p := by have := hr3.hp; rw [HZ2.out] at this; exact this
  have hb03 : Below w.heap.size w w3 := HB2.out.trans (hb3.mono (by rw [HZ2.out]; omega))
  have HX3 := Lib.hid hx3
  have HY3 := Lib.hid hy3
  have HB3 := Lib.hid hb03
  have HE3 := Lib.hid hE3
  clear hr3 hb3 hE3 hx3 hy3 hb03
  go_wp2_with fail
  refine C2.mono ?_
  rintro e w4 ⟨hyes, hno⟩
  clear C2
  cases hres : RES with
  | none =>
    obtain ⟨rfl, he4⟩ := hno hres
    have hb4 : Below w.heap.size w w4 := HB3.out.trans (he4.below (B := w.heap.size) (fun k hk => by omega) HB3.out.size)
    have hx4 := (he4.block w.heap.size (lt_of_heap HX3.out) (by omega)).trans HX3.out
    have hy4 := (he4.block (w.heap.size + 1) (lt_of_heap HY3.out) (by omega)).trans HY3.out
    have hE4 := HE3.out.eff he4 HG2.out (fun k hk => by rw [HZ2.out]; omega)
    have C5 := opend_panicking w.heap.size (w.heap.size + 1) _ _ 190 (.pointer (some (EA 10))) EA [] w4 (blk_cell hx4 0) (blk_frozen hx4 0) (blk_cell hy4 0) (blk_frozen hy4 0) (by omega) hE4.c rfl rfl
    have d0 : w4.cell? ⟨w.heap.size, 0, none⟩ = some (.pointer none) := blk_cell hx4 0
    have d1 : w4.cell? ⟨w.heap.size + 1, 0, none⟩ = some .nilIface := blk_cell hy4 0
    have HB4 := Lib.hid hb4
    have HN := Lib.hid hres
    clear hyes hno he4 hb4 hx4 hy4 hE4 hres
    unfold gaveUp errV
    go_wp2
    refine leaves_cons (f := 73) (args := #[.pointer (some ⟨w.heap.size, 0, none⟩), .pointer (some ⟨w.heap.size + 1, 0, none⟩)]) (by simp) (by simp [go_sem]) ?_
    refine C5.mono ?_
    rintro e u' w5 ⟨rfl, rfl, rfl⟩
    simp [Leaves, settle, results, Tryd.results59, go_sem, d0, d1]
    exact OpenPost.no rfl rfl ((HB4.out.setCell (p := ⟨w.heap.size, 0, none⟩) (Nat.le_refl _) _).setCell (p := ⟨w.heap.size + 1, 0, none⟩) (by simp) _)
  | some l =>
    obtain ⟨v4, rfl, hrow4, he4⟩ := hyes l hres
    have hb4 : Below w.heap.size w w4 := HB3.out.trans (he4.below (B := w.heap.size) (fun k hk => by omega) HB3.out.size)
    have hx4 := (he4.block w.heap.size (lt_of_heap HX3.out) (by omega)).trans HX3.out
    have hy4 := (he4.block (w.heap.size + 1) (lt_of_heap HY3.out) (by omega)).trans HY3.out
    obtain ⟨A4, C4, rfl⟩ := hrow4.sl
    have hz4 : w.heap.size + 1 < w4.heap.size := lt_of_heap hy4
    have hx5 : (w4.alloc (.cells #[.slice A4 l.length C4] 158)).heap[w.heap.size]? = some (.cells #[.pointer none] 68 (0, 0)) := (Below.heap_alloc w4 _ _ (by omega)).trans hx4
    have hy5 : (w4.alloc (.cells #[.slice A4 l.length C4] 158)).heap[w.heap.size + 1]? = some (.cells #[.nilIface] 29 (0, 0)) := (Below.heap_alloc w4 _ _ (by omega)).trans hy4
    have d0 : (w4.alloc (.cells #[.slice A4 l.length C4] 158)).cell? ⟨w.heap.size, 0, none⟩ = some (.pointer none) := blk_cell hx5 0
    have d1 : (w4.alloc (.cells #[.slice A4 l.length C4] 158)).cell? ⟨w.heap.size + 1, 0, none⟩ = some .nilIface := blk_cell hy5 0
    have f0 : (w4.alloc (.cells #[.slice A4 l.length C4] 158)).frozen? ⟨w.heap.size, 0, none⟩ = false := blk_frozen hx5 0
    have f1 : (w4.alloc (.cells #[.slice A4 l.length C4] 158)).frozen? ⟨w.heap.size + 1, 0, none⟩ = false := blk_frozen hy5 0
    have hd5 : DictAt (w4.alloc (.cells #[.slice A4 l.length C4] 158)) (w.heap.size + 1 + 1) w4.heap.size (.slice A4 l.length C4) l :=
      ⟨heap_alloc_new w4 _, hz4, by
        have h1 : RowE (w4.alloc (.cells #[.slice A4 l.length C4] 158)) w3.heap.size (.slice A4 l.length C4) l := hrow4.eff (F := fun _ => False) ((Eff.refl _ _).alloc _) (fun _ _ f => f)
        refine ⟨h1.1, h1.2.imp id ?_⟩
        rintro ⟨g, cap, cur, e1, e2, e3⟩
        exact ⟨g, cap, cur, e1, by have := lt_of_heap HY3.out; omega, e3⟩⟩
    have HB4 := Lib.hid hb4
    have HD5 := Lib.hid hd5
    have HN := Lib.hid hres
    clear hyes hno he4 hb4 hx4 hy4 hrow4 hres hx5 hy5 hd5
    obtain ⟨w5, hw5⟩ : ∃ w5, w5 = w4.alloc (.cells #[.slice A4 l.length C4] 158) := ⟨_, rfl⟩
    have hb5 : Below w.heap.size w w5 := by rw [hw5]; exact HB4.out.alloc (by omega) _
    have hd5 := HD5.out
    rw [← hw5] at d0 d1 f0 f1 hd5
    have HB5 := Lib.hid hb5
    have HDD := Lib.hid hd5
    have HW5 := Lib.hid hw5
    clear hb5 hd5 hw5 HB4 HD5
    rw [HW5.out] at d0 d1 f0 f1
    go_wp2
    rw [← HW5.out] at d0 d1 f0 f1 ⊢
    refine leaves_cons (f := 73) (args := #[.pointer (some ⟨w.heap.size, 0, none⟩), .pointer (some ⟨w.heap.size + 1, 0, none⟩)]) (by simp) (by simp [go_sem]) ?_
    refine (opend_idle w.heap.size (w.heap.size + 1) _).mono ?_
    rintro e u' w6 ⟨rfl, rfl, rfl⟩
    have e1 : (w5.setCell ⟨w.heap.size, 0, none⟩ (.pointer (some ⟨w4.heap.size, 0, none⟩))).cell? ⟨w.heap.size + 1, 0, none⟩ = some .nilIface := by
      rw [World.cell?_of_block (a := ⟨w.heap.size + 1, 0, none⟩) (Below.heap_setCell w5 ⟨w.heap.size, 0, none⟩ _ (w.heap.size + 1) (by simp only; omega))]; exact d1
    simp [Leaves, settle, results, Tryd.results59, go_sem, d0, e1]
    refine OpenPost.ok (v := .slice A4 l.length C4) HN.out rfl ?_ ((HB5.out.setCell (p := ⟨w.heap.size, 0, none⟩) (Nat.le_refl _) _).setCell (p := ⟨w.heap.size + 1, 0, none⟩) (by simp) _)
    have h2 := HDD.out.eff (F := fun k => k < w.heap.size + 1 + 1) (((Eff.refl (fun k => k < w.heap.size + 1 + 1) w5).setCell (p := ⟨w.heap.size, 0, none⟩) (fun _ => by simp only; omega) (.pointer (some ⟨w4.heap.size, 0, none⟩))).setCell (p := ⟨w.heap.size + 1, 0, none⟩) (fun _ => by simp only; omega) .nilIface) (fun k hk => hk)
    exact ⟨h2.blk, by have := h2.hq; omega, h2.row.1, h2.row.2.imp id (fun ⟨g, cap, cur, e1, e2, e3⟩ => ⟨g, cap, cur, e1, by omega, e3⟩)⟩
end Go.Proofs.YtejmjjgbbojfbaaDoor
