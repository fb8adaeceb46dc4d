/- cursor: the document's cursor: Next, Advance, Positions (printed by wip/gen_docc.py). -/
import Derived.Test.YtaijepjhmjjecaaDoorZG26
namespace Go.Proofs.YtaijepjhmjjecaaDoor
set_option linter.unusedVariables false
open Go.ChangeShapes Go.WideShapes Go.ChangeAt Go.RowKit

set_option maxRecDepth 100000 in
set_option maxHeartbeats 4000000 in
theorem rnext_any (w : World) (a : Option Addr) (n c u mv : Nat) (told : Bool) (hn : n ≤ 2000000) (hu : u ≤ n + 1) (hmv : mv ≤ 1000000000000000) :
    Calls Tryd.prog 56 #[RcV a n c u mv told] w fun e w' => e = .returned (RcV a n c (if u = n + 1 then u else u + 1) (if u = n + 1 then mv else mv + costU u u n) (if u = n + 1 then told else false)) ∧ Below w.heap.size w w' := by
  obtain ⟨pl, hpl⟩ : ∃ pl : Int, (u : Int) - 1 = pl := ⟨_, rfl⟩
  unfold RcV
  rw [hpl]
  have HW := Lib.hid (boxR_of w a n c pl mv told)
  by_cases h : u = n + 1
  · simp only [if_pos h]
    rw [hpl]
    obtain rfl : pl = (n : Int) := by omega
    have t1 : decide (n ≤ n) = true := decide_eq_true (Nat.le_refl _)
    clear h hpl hu
    go_enter Tryd.func56, Tryd.ntmps56
    go_upto_region 1 with fail
    generalize (w.alloc (.cells #[.slice a n c, .int .i64 (n : Int), .int .i64 (mv : Nat), .bool told] 57)).alloc (.cells #[.slice none 0 0, .int .i64 0, .int .i64 0, .bool false] 57) = w1 at HW ⊢
    obtain ⟨z, hz⟩ : ∃ z, w.heap.size = z := ⟨_, rfl⟩
    rw [hz] at HW ⊢
    obtain ⟨z1, hz1⟩ : ∃ z1, z + 1 = z1 := ⟨_, rfl⟩
    have hres := HW.out.res
    rw [hz1] at hres ⊢
    have HZ1 := Lib.hid hz1
    have HZ := Lib.hid hz
    have hsz : z1 + 1 = w1.heap.size := by rw [HW.out.size]; omega
    clear hz hz1
    have c0 := HW.out.box.c0
    have c1 := HW.out.box.c1
    have c2 := HW.out.box.c2
    have c3 := HW.out.box.c3
    have HRES := Lib.hid hres
    clear hres
    have hrX := HRES.out
    have hbX := HW.out.bel
    have hzX : z1 < w1.heap.size := by omega
    clear HW HRES hsz
    have r0 := hrX.c0
    have r1 := hrX.c1
    have r2 := hrX.c2
    have r3 := hrX.c3
    have f0 := blk_frozen hrX.blk 0
    have f1 := blk_frozen hrX.blk 1
    have f2 := blk_frozen hrX.blk 2
    have f3 := blk_frozen hrX.blk 3
    have hfin : RcB ((((w1.setCell ⟨z1, 0, none⟩ (.slice a n c)).setCell ⟨z1, 1, none⟩ (.int .i64 (n : Int))).setCell ⟨z1, 2, none⟩ (.int .i64 (mv : Nat))).setCell ⟨z1, 3, none⟩ (.bool told)) z1 a n c (n : Int) mv told := rc_store hrX
    have heff := rc_eff (w := w1) (z := z1) (.slice a n c) (.int .i64 (n : Int)) (.int .i64 (mv : Nat)) (.bool told)
    have hz1 := HZ1.out
    have hbN := hbX.trans (eff_below (B := z) heff (by omega) (by omega))
    have HFIN := Lib.hid hfin
    have HBN := Lib.hid hbN
    clear hz1 hfin heff hbN
    go_wp2
    generalize ((((w1.setCell ⟨z1, 0, none⟩ (.slice a n c)).setCell ⟨z1, 1, none⟩ (.int .i64 (n : Int))).setCell ⟨z1, 2, none⟩ (.int .i64 (mv : Nat))).setCell ⟨z1, 3, none⟩ (.bool told)) = w9 at HFIN HBN ⊢
    have z0 := HFIN.out.c0
    have z1' := HFIN.out.c1
    have z2 := HFIN.out.c2
    have z3 := HFIN.out.c3
    clear r0 r1 r2 r3 f0 f1 f2 f3 c0 c1 c2 c3
    try simp only [Exit.inBlock, Exit.then]
    refine bodyPost_ret (by simp [results, Tryd.results56, go_sem, z0, z1', z2, z3]; try rfl) rfl ?_
    exact ⟨rfl, by first | exact HBN.out | (rw [HZ.out]; exact HBN.out)⟩
  · simp only [if_neg h]
    have hun : u ≤ n := by omega
    have t1 : decide ((n : Int) ≤ pl) = false := decide_eq_false (by omega)
    have s1 : IntKind.i64.wrap (pl + 1) = (u : Int) := by rw [IntKind.wrap_i64]; omega
    have C1 := fun W => rto_any W a n c u u mv told hn (Nat.le_refl _) hun hmv pl hpl
    unfold RcV at C1
    have hcl := costU_le (Nat.le_refl u) hun
    obtain ⟨K, hK⟩ : ∃ K, mv + costU u u n = K := ⟨_, rfl⟩
    obtain ⟨U, hU⟩ : ∃ U : Int, ((u + 1 : Nat) : Int) - 1 = U := ⟨_, rfl⟩
    rw [hK, hU] at C1 ⊢
    have HC1 := Lib.hid C1
    have HU := Lib.hid hU
    clear h hpl hu C1 hK hU hcl
    go_enter Tryd.func56, Tryd.ntmps56
    go_upto_region 1 with fail
    generalize (w.alloc (.cells #[.slice a n c, .int .i64 pl, .int .i64 (mv : Nat), .bool told] 57)).alloc (.cells #[.slice none 0 0, .int .i64 0, .int .i64 0, .bool false] 57) = w1 at HW ⊢
    obtain ⟨z, hz⟩ : ∃ z, w.heap.size = z := ⟨_, rfl⟩
    rw [hz] at HW ⊢
    obtain ⟨z1, hz1⟩ : ∃ z1, z + 1 = z1 := ⟨_, rfl⟩
    have hres := HW.out.res
    rw [hz1] at hres ⊢
    have HZ1 := Lib.hid hz1
    have HZ := Lib.hid hz
    have hsz : z1 + 1 = w1.heap.size := by rw [HW.out.size]; omega
    clear hz hz1
    have c0 := HW.out.box.c0
    have c1 := HW.out.box.c1
    have c2 := HW.out.box.c2
    have c3 := HW.out.box.c3
    have HRES := Lib.hid hres
    clear hres
    go_wp2_with fail
    with_reducible refine (HC1.out _).mono ?_
    rintro e w2 ⟨rfl, hb2⟩
    have hrX := HRES.out.below hb2 (by omega)
    have hbX := HW.out.bel.trans (hb2.mono (by have := HZ1.out; omega))
    have hzX : z1 < w2.heap.size := by have := hb2.size; omega
    clear HW HRES hsz HC1 hb2
    have r0 := hrX.c0
    have r1 := hrX.c1
    have r2 := hrX.c2
    have r3 := hrX.c3
    have f0 := blk_frozen hrX.blk 0
    have f1 := blk_frozen hrX.blk 1
    have f2 := blk_frozen hrX.blk 2
    have f3 := blk_frozen hrX.blk 3
    have hfin : RcB ((((w2.setCell ⟨z1, 0, none⟩ (.slice a n c)).setCell ⟨z1, 1, none⟩ (.int .i64 U)).setCell ⟨z1, 2, none⟩ (.int .i64 (K : Nat))).setCell ⟨z1, 3, none⟩ (.bool false)) z1 a n c U K false := rc_store hrX
    have heff := rc_eff (w := w2) (z := z1) (.slice a n c) (.int .i64 U) (.int .i64 (K : Nat)) (.bool false)
    have hz1 := HZ1.out
    have hbN := hbX.trans (eff_below (B := z) heff (by omega) (by omega))
    have HFIN := Lib.hid hfin
    have HBN := Lib.hid hbN
    clear hz1 hfin heff hbN
    go_wp2
    generalize ((((w2.setCell ⟨z1, 0, none⟩ (.slice a n c)).setCell ⟨z1, 1, none⟩ (.int .i64 U)).setCell ⟨z1, 2, none⟩ (.int .i64 (K : Nat))).setCell ⟨z1, 3, none⟩ (.bool false)) = w9 at HFIN HBN ⊢
    have z0 := HFIN.out.c0
    have z1' := HFIN.out.c1
    have z2 := HFIN.out.c2
    have z3 := HFIN.out.c3
    clear r0 r1 r2 r3 f0 f1 f2 f3 c0 c1 c2 c3
    try simp only [Exit.inBlock, Exit.then]
    refine bodyPost_ret (by simp [results, Tryd.results56, go_sem, z0, z1', z2, z3]; try rfl) rfl ?_
    exact ⟨rfl, by first | exact HBN.out | (rw [HZ.out]; exact HBN.out)⟩
set_option maxRecDepth 100000 in
set_option maxHeartbeats 4000000 in
theorem radv_any (w : World) (a : Option Addr) (n c : Nat) (ps : List PostV) (hr : RdPost w a n ps) (hn : ps.length ≤ 2000000) (u mv : Nat) (told : Bool) (hu : u ≤ ps.length + 1) (hmv : mv ≤ 1000000000000000) (t : Int) :
    Calls Tryd.prog 57 #[RcV a n c u mv told, .int .i64 t] w fun e w' => e = .returned (RcV a n c (if stayU ps u t then u else firstU ps u t + 1) (if stayU ps u t then mv else mv + costU u (firstU ps u t) ps.length) (if stayU ps u t then told else false)) ∧ Below w.heap.size w w' := by
  obtain ⟨pl, hpl⟩ : ∃ pl : Int, (u : Int) - 1 = pl := ⟨_, rfl⟩
  have hn1 := hr.1
  have D1 := fun (W : World) (hb : Below w.heap.size w W) => rdoc_any W a n c ps (hr.below hb (Nat.le_refl _)) hn u hu pl hpl mv told
  unfold RcV
  rw [hpl]
  have HW := Lib.hid (boxR_of w a n c pl mv told)
  obtain ⟨d, hd⟩ : ∃ d, docU ps u = d := ⟨_, rfl⟩
  rw [hd] at D1
  have HD1 := Lib.hid D1
  by_cases hst : stayU ps u t
  · simp only [if_pos hst]
    rw [hpl]
    unfold stayU at hst
    rw [hd] at hst
    by_cases h1 : t ≤ d
    · have t1 : decide (t ≤ d) = true := decide_eq_true h1
      clear hpl hu D1 hst hd hr hn1
      go_enter Tryd.func57, Tryd.ntmps57
      go_upto_region 1 with fail
      generalize (w.alloc (.cells #[.slice a n c, .int .i64 pl, .int .i64 (mv : Nat), .bool told] 57)).alloc (.cells #[.slice none 0 0, .int .i64 0, .int .i64 0, .bool false] 57) = w1 at HW ⊢
      obtain ⟨z, hz⟩ : ∃ z, w.heap.size = z := ⟨_, rfl⟩
      rw [hz] at HW ⊢
      obtain ⟨z1, hz1⟩ : ∃ z1, z + 1 = z1 := ⟨_, rfl⟩
      have hres := HW.out.res
      rw [hz1] at hres ⊢
      have HZ1 := Lib.hid hz1
      have HZ := Lib.hid hz
      have hsz : z1 + 1 = w1.heap.size := by rw [HW.out.size]; omega
      clear hz hz1
      have c0 := HW.out.box.c0
      have c1 := HW.out.box.c1
      have c2 := HW.out.box.c2
      have c3 := HW.out.box.c3
      have HRES := Lib.hid hres
      clear hres
      have hbel : Below w.heap.size w w1 := by rw [HZ.out]; exact HW.out.bel
      have HBL := Lib.hid hbel
      clear hbel
      go_wp2_with fail
      with_reducible refine (HD1.out _ HBL.out).mono ?_
      rintro e w2 ⟨rfl, hb2⟩
      have c0 := (hb2.cell (p := ⟨z, 0, none⟩) (by have := HZ1.out; show z < _; omega)).trans c0
      have c1 := (hb2.cell (p := ⟨z, 1, none⟩) (by have := HZ1.out; show z < _; omega)).trans c1
      have c2 := (hb2.cell (p := ⟨z, 2, none⟩) (by have := HZ1.out; show z < _; omega)).trans c2
      have c3 := (hb2.cell (p := ⟨z, 3, none⟩) (by have := HZ1.out; show z < _; omega)).trans c3
      have hrX := HRES.out.below hb2 (by omega)
      have hbX := HW.out.bel.trans (hb2.mono (by have := HZ1.out; omega))
      have hzX : z1 < w2.heap.size := by have := hb2.size; omega
      clear HW HRES hsz HD1 hb2 HBL
      have r0 := hrX.c0
      have r1 := hrX.c1
      have r2 := hrX.c2
      have r3 := hrX.c3
      have f0 := blk_frozen hrX.blk 0
      have f1 := blk_frozen hrX.blk 1
      have f2 := blk_frozen hrX.blk 2
      have f3 := blk_frozen hrX.blk 3
      have hfin : RcB ((((w2.setCell ⟨z1, 0, none⟩ (.slice a n c)).setCell ⟨z1, 1, none⟩ (.int .i64 pl)).setCell ⟨z1, 2, none⟩ (.int .i64 (mv : Nat))).setCell ⟨z1, 3, none⟩ (.bool told)) z1 a n c pl mv told := rc_store hrX
      have heff := rc_eff (w := w2) (z := z1) (.slice a n c) (.int .i64 pl) (.int .i64 (mv : Nat)) (.bool told)
      have hz1 := HZ1.out
      have hbN := hbX.trans (eff_below (B := z) heff (by omega) (by omega))
      have HFIN := Lib.hid hfin
      have HBN := Lib.hid hbN
      clear hz1 hfin heff hbN
      go_wp2
      generalize ((((w2.setCell ⟨z1, 0, none⟩ (.slice a n c)).setCell ⟨z1, 1, none⟩ (.int .i64 pl)).setCell ⟨z1, 2, none⟩ (.int .i64 (mv : Nat))).setCell ⟨z1, 3, none⟩ (.bool told)) = w9 at HFIN HBN ⊢
      have z0 := HFIN.out.c0
      have z1' := HFIN.out.c1
      have z2 := HFIN.out.c2
      have z3 := HFIN.out.c3
      clear r0 r1 r2 r3 f0 f1 f2 f3 c0 c1 c2 c3
      try simp only [Exit.inBlock, Exit.then]
      refine bodyPost_ret (by simp [results, Tryd.results57, go_sem, z0, z1', z2, z3]; try rfl) rfl ?_
      exact ⟨rfl, by first | exact HBN.out | (rw [HZ.out]; exact HBN.out)⟩
    · have t1 : decide (t ≤ d) = false := decide_eq_false h1
      obtain rfl : pl = (n : Int) := by omega
      have t2 : decide (n ≤ n) = true := decide_eq_true (Nat.le_refl _)
      clear hpl hu D1 hst hd hr hn1
      go_enter Tryd.func57, Tryd.ntmps57
      go_upto_region 1 with fail
      generalize (w.alloc (.cells #[.slice a n c, .int .i64 (n : Int), .int .i64 (mv : Nat), .bool told] 57)).alloc (.cells #[.slice none 0 0, .int .i64 0, .int .i64 0, .bool false] 57) = w1 at HW ⊢
      obtain ⟨z, hz⟩ : ∃ z, w.heap.size = z := ⟨_, rfl⟩
      rw [hz] at HW ⊢
      obtain ⟨z1, hz1⟩ : ∃ z1, z + 1 = z1 := ⟨_, rfl⟩
      have hres := HW.out.res
      rw [hz1] at hres ⊢
      have HZ1 := Lib.hid hz1
      have HZ := Lib.hid hz
      have hsz : z1 + 1 = w1.heap.size := by rw [HW.out.size]; omega
      clear hz hz1
      have c0 := HW.out.box.c0
      have c1 := HW.out.box.c1
      have c2 := HW.out.box.c2
      have c3 := HW.out.box.c3
      have HRES := Lib.hid hres
      clear hres
      have hbel : Below w.heap.size w w1 := by rw [HZ.out]; exact HW.out.bel
      have HBL := Lib.hid hbel
      clear hbel
      go_wp2_with fail
      with_reducible refine (HD1.out _ HBL.out).mono ?_
      rintro e w2 ⟨rfl, hb2⟩
      have c0 := (hb2.cell (p := ⟨z, 0, none⟩) (by have := HZ1.out; show z < _; omega)).trans c0
      have c1 := (hb2.cell (p := ⟨z, 1, none⟩) (by have := HZ1.out; show z < _; omega)).trans c1
      have c2 := (hb2.cell (p := ⟨z, 2, none⟩) (by have := HZ1.out; show z < _; omega)).trans c2
      have c3 := (hb2.cell (p := ⟨z, 3, none⟩) (by have := HZ1.out; show z < _; omega)).trans c3
      have hrX := HRES.out.below hb2 (by omega)
      have hbX := HW.out.bel.trans (hb2.mono (by have := HZ1.out; omega))
      have hzX : z1 < w2.heap.size := by have := hb2.size; omega
      clear HW HRES hsz HD1 hb2 HBL
      have r0 := hrX.c0
      have r1 := hrX.c1
      have r2 := hrX.c2
      have r3 := hrX.c3
      have f0 := blk_frozen hrX.blk 0
      have f1 := blk_frozen hrX.blk 1
      have f2 := blk_frozen hrX.blk 2
      have f3 := blk_frozen hrX.blk 3
      have hfin : RcB ((((w2.setCell ⟨z1, 0, none⟩ (.slice a n c)).setCell ⟨z1, 1, none⟩ (.int .i64 (n : Int))).setCell ⟨z1, 2, none⟩ (.int .i64 (mv : Nat))).setCell ⟨z1, 3, none⟩ (.bool told)) z1 a n c (n : Int) mv told := rc_store hrX
      have heff := rc_eff (w := w2) (z := z1) (.slice a n c) (.int .i64 (n : Int)) (.int .i64 (mv : Nat)) (.bool told)
      have hz1 := HZ1.out
      have hbN := hbX.trans (eff_below (B := z) heff (by omega) (by omega))
      have HFIN := Lib.hid hfin
      have HBN := Lib.hid hbN
      clear hz1 hfin heff hbN
      go_wp2
      generalize ((((w2.setCell ⟨z1, 0, none⟩ (.slice a n c)).setCell ⟨z1, 1, none⟩ (.int .i64 (n : Int))).setCell ⟨z1, 2, none⟩ (.int .i64 (mv : Nat))).setCell ⟨z1, 3, none⟩ (.bool told)) = w9 at HFIN HBN ⊢
      have z0 := HFIN.out.c0
      have z1' := HFIN.out.c1
      have z2 := HFIN.out.c2
      have z3 := HFIN.out.c3
      clear r0 r1 r2 r3 f0 f1 f2 f3 c0 c1 c2 c3
      try simp only [Exit.inBlock, Exit.then]
      refine bodyPost_ret (by simp [results, Tryd.results57, go_sem, z0, z1', z2, z3]; try rfl) rfl ?_
      exact ⟨rfl, by first | exact HBN.out | (rw [HZ.out]; exact HBN.out)⟩
  · simp only [if_neg hst]
    unfold stayU at hst
    rw [hd] at hst
    have hun : u ≤ n := by omega
    have t1 : decide (t ≤ d) = false := decide_eq_false (by omega)
    have t2 : decide ((n : Int) ≤ pl) = false := decide_eq_false (by omega)
    have s1 : IntKind.i64.wrap (pl + 1) = (u : Int) := by rw [IntKind.wrap_i64]; omega
    have HR := Lib.hid hr
    have hnl : n ≤ 2000000 := by omega
    have C1 := fun (W : World) (g : Nat) (h1 : u ≤ g) (h2 : g ≤ n) => rto_any W a n c u g mv told hnl h1 h2 hmv pl hpl
    unfold RcV at C1
    have HC1 := Lib.hid C1
    have HN1 := Lib.hid hn1
    rw [← hn1]
    clear D1 hd hst hu hr hn1 hn C1
    go_enter Tryd.func57, Tryd.ntmps57
    go_upto_region 1 with fail
    generalize (w.alloc (.cells #[.slice a n c, .int .i64 pl, .int .i64 (mv : Nat), .bool told] 57)).alloc (.cells #[.slice none 0 0, .int .i64 0, .int .i64 0, .bool false] 57) = w1 at HW ⊢
    obtain ⟨z, hz⟩ : ∃ z, w.heap.size = z := ⟨_, rfl⟩
    rw [hz] at HW ⊢
    obtain ⟨z1, hz1⟩ : ∃ z1, z + 1 = z1 := ⟨_, rfl⟩
    have hres := HW.out.res
    rw [hz1] at hres ⊢
    have HZ1 := Lib.hid hz1
    have HZ := Lib.hid hz
    have hsz : z1 + 1 = w1.heap.size := by rw [HW.out.size]; omega
    clear hz hz1
    have c0 := HW.out.box.c0
    have c1 := HW.out.box.c1
    have c2 := HW.out.box.c2
    have c3 := HW.out.box.c3
    have HRES := Lib.hid hres
    clear hres
    have hbel : Below w.heap.size w w1 := by rw [HZ.out]; exact HW.out.bel
    have HBL := Lib.hid hbel
    clear hbel
    go_wp2_with fail
    with_reducible refine (HD1.out _ HBL.out).mono ?_
    rintro e w2 ⟨rfl, hb2⟩
    have c0 := (hb2.cell (p := ⟨z, 0, none⟩) (by have := HZ1.out; show z < _; omega)).trans c0
    have c1 := (hb2.cell (p := ⟨z, 1, none⟩) (by have := HZ1.out; show z < _; omega)).trans c1
    have c2 := (hb2.cell (p := ⟨z, 2, none⟩) (by have := HZ1.out; show z < _; omega)).trans c2
    have c3 := (hb2.cell (p := ⟨z, 3, none⟩) (by have := HZ1.out; show z < _; omega)).trans c3
    have HRES2 := Lib.hid (HRES.out.below hb2 (by omega))
    have hbX := HW.out.bel.trans (hb2.mono (by have := HZ1.out; omega))
    have hsz2 : z1 < w2.heap.size := by have := hb2.size; omega
    have HR2 := Lib.hid (HR.out.below (show Below w.heap.size w w2 by rw [HZ.out]; exact hbX) (Nat.le_refl _))
    have HBX := Lib.hid hbX
    clear HW HRES hsz HD1 hb2 HBL hbX HR
    go_wp2
    go_loopw [5] (fun s5 wr => ∃ g : Nat, s5 = .int .i64 g ∧ u ≤ g ∧ g ≤ n ∧ RowKit.Hid (∀ (j : Nat) (h : j < ps.length), u ≤ j → j < g → ps[j].doc < t) ∧ wr = w2) (fun s5 _ => n - (intOf s5).toNat)
    case atStart => exact ⟨u, rfl, Nat.le_refl _, hun, Lib.hid (fun j h h1 h2 => by omega), rfl⟩
    case round =>
      obtain ⟨g, rfl, hg1, hg2, HG, rfl⟩ := hrel
      have hpn := HN1.out
      have hstop : (∀ h : g < ps.length, ¬ ps[g].doc < t) → firstU ps u t = g := fun h9 => firstU_eq hg1 (by omega) HG.out h9
      have HSTOP := Lib.hid hstop
      by_cases hlt : g < n
      · have hgl : g < ps.length := by omega
        clear hpn
        obtain ⟨b, o, A, C, hae, x0, -⟩ := HR2.out.at2 hgl
        subst hae
        have hup : ps[g].doc < t → ∀ (j : Nat) (h : j < ps.length), u ≤ j → j < g + 1 → ps[j].doc < t := fun h9 j h h1 h2 => by
          by_cases e : j = g
          · subst e; exact h9
          · exact HG.out j h h1 (by omega)
        have HUP := Lib.hid hup
        obtain ⟨x, hx⟩ : ∃ x, ps[g].doc = x := ⟨_, rfl⟩
        have HX := Lib.hid hx
        rw [hx] at x0
        have t3 : decide (g < n) = true := decide_eq_true hlt
        have i1 : (g : Int) < (n : Int) := by omega
        by_cases hxt : x < t
        · have t4 : decide (x < t) = true := decide_eq_true hxt
          clear hx hup hstop
          go_wp2
          go_roundw
          case rel => exact ⟨g + 1, by go_num, by omega, by omega, Lib.hid (HUP.out (by rw [HX.out]; exact hxt)), by first | rfl | trivial⟩
          case measure => simp [intOf]; omega
        · have t4 : decide (x < t) = false := decide_eq_false hxt
          have hfu := hstop (fun _ => by rw [hx]; exact hxt)
          have hcl := costU_le hg1 hg2
          obtain ⟨K, hK⟩ : ∃ K, mv + costU u g n = K := ⟨_, rfl⟩
          obtain ⟨U, hU⟩ : ∃ U : Int, ((g + 1 : Nat) : Int) - 1 = U := ⟨_, rfl⟩
          have C2 := fun W => HC1.out W g hg1 hg2
          rw [hK, hU] at C2
          have HC2 := Lib.hid C2
          have HFU := Lib.hid hfu
          have HK := Lib.hid hK
          have HU := Lib.hid hU
          have HUN := Lib.hid (And.intro hg1 hg2)
          clear hx hup hstop hfu C2 hK hU HUP HSTOP HG HC1 hlt hxt hun hpl hcl
          go_wp2_with fail
          with_reducible refine (HC2.out _).mono ?_
          rintro e w3 ⟨rfl, hb3⟩
          have hrX := HRES2.out.below hb3 (by omega)
          have hbX := HBX.out.trans (hb3.mono (by have := HZ1.out; omega))
          have hzX : z1 < w3.heap.size := by have := hb3.size; omega
          clear HRES2 HBX hb3 HC2 HR2
          have r0 := hrX.c0
          have r1 := hrX.c1
          have r2 := hrX.c2
          have r3 := hrX.c3
          have f0 := blk_frozen hrX.blk 0
          have f1 := blk_frozen hrX.blk 1
          have f2 := blk_frozen hrX.blk 2
          have f3 := blk_frozen hrX.blk 3
          have hfin : RcB ((((w3.setCell ⟨z1, 0, none⟩ (.slice (some ⟨b, o, none⟩) n c)).setCell ⟨z1, 1, none⟩ (.int .i64 U)).setCell ⟨z1, 2, none⟩ (.int .i64 (K : Nat))).setCell ⟨z1, 3, none⟩ (.bool false)) z1 (some ⟨b, o, none⟩) n c U K false := rc_store hrX
          have heff := rc_eff (w := w3) (z := z1) (.slice (some ⟨b, o, none⟩) n c) (.int .i64 U) (.int .i64 (K : Nat)) (.bool false)
          have hz1 := HZ1.out
          have hbN := hbX.trans (eff_below (B := z) heff (by omega) (by omega))
          have HFIN := Lib.hid hfin
          have HBN := Lib.hid hbN
          clear hz1 hfin heff hbN
          go_wp2
          generalize ((((w3.setCell ⟨z1, 0, none⟩ (.slice (some ⟨b, o, none⟩) n c)).setCell ⟨z1, 1, none⟩ (.int .i64 U)).setCell ⟨z1, 2, none⟩ (.int .i64 (K : Nat))).setCell ⟨z1, 3, none⟩ (.bool false)) = w9 at HFIN HBN ⊢
          have z0 := HFIN.out.c0
          have z1' := HFIN.out.c1
          have z2 := HFIN.out.c2
          have z3 := HFIN.out.c3
          clear r0 r1 r2 r3 f0 f1 f2 f3 c0 c1 c2 c3
          try simp only [Exit.inBlock, Exit.then]
          refine bodyPost_ret (by simp [results, Tryd.results57, go_sem, z0, z1', z2, z3]; try rfl) rfl ?_
          exact ⟨by rw [HFU.out, HK.out, HU.out], by first | exact HBN.out | (rw [HZ.out]; exact HBN.out)⟩
      · obtain rfl : g = n := by omega
        have t3 : decide (g < g) = false := decide_eq_false (Nat.lt_irrefl _)
        have hfu := hstop (fun h => by omega)
        have hcl := costU_le hg1 hg2
        obtain ⟨K, hK⟩ : ∃ K, mv + costU u g g = K := ⟨_, rfl⟩
        obtain ⟨U, hU⟩ : ∃ U : Int, ((g + 1 : Nat) : Int) - 1 = U := ⟨_, rfl⟩
        have C2 := fun W => HC1.out W g hg1 hg2
        rw [hK, hU] at C2
        have HC2 := Lib.hid C2
        have HFU := Lib.hid hfu
        have HK := Lib.hid hK
        have HU := Lib.hid hU
        clear hstop hpn hfu C2 hK hU HSTOP HG HC1 hlt hun hpl hcl
        go_wp2_with fail
        with_reducible refine (HC2.out _).mono ?_
        rintro e w3 ⟨rfl, hb3⟩
        have hrX := HRES2.out.below hb3 (by omega)
        have hbX := HBX.out.trans (hb3.mono (by have := HZ1.out; omega))
        have hzX : z1 < w3.heap.size := by have := hb3.size; omega
        clear HRES2 HBX hb3 HC2 HR2
        have r0 := hrX.c0
        have r1 := hrX.c1
        have r2 := hrX.c2
        have r3 := hrX.c3
        have f0 := blk_frozen hrX.blk 0
        have f1 := blk_frozen hrX.blk 1
        have f2 := blk_frozen hrX.blk 2
        have f3 := blk_frozen hrX.blk 3
        have hfin : RcB ((((w3.setCell ⟨z1, 0, none⟩ (.slice a g c)).setCell ⟨z1, 1, none⟩ (.int .i64 U)).setCell ⟨z1, 2, none⟩ (.int .i64 (K : Nat))).setCell ⟨z1, 3, none⟩ (.bool false)) z1 a g c U K false := rc_store hrX
        have heff := rc_eff (w := w3) (z := z1) (.slice a g c) (.int .i64 U) (.int .i64 (K : Nat)) (.bool false)
        have hz1 := HZ1.out
        have hbN := hbX.trans (eff_below (B := z) heff (by omega) (by omega))
        have HFIN := Lib.hid hfin
        have HBN := Lib.hid hbN
        clear hz1 hfin heff hbN
        go_wp2
        generalize ((((w3.setCell ⟨z1, 0, none⟩ (.slice a g c)).setCell ⟨z1, 1, none⟩ (.int .i64 U)).setCell ⟨z1, 2, none⟩ (.int .i64 (K : Nat))).setCell ⟨z1, 3, none⟩ (.bool false)) = w9 at HFIN HBN ⊢
        have z0 := HFIN.out.c0
        have z1' := HFIN.out.c1
        have z2 := HFIN.out.c2
        have z3 := HFIN.out.c3
        clear r0 r1 r2 r3 f0 f1 f2 f3 c0 c1 c2 c3
        try simp only [Exit.inBlock, Exit.then]
        refine bodyPost_ret (by simp [results, Tryd.results57, go_sem, z0, z1', z2, z3]; try rfl) rfl ?_
        exact ⟨by rw [HFU.out, HK.out, HU.out], by first | exact HBN.out | (rw [HZ.out]; exact HBN.out)⟩
set_option maxRecDepth 100000 in
set_option maxHeartbeats 4000000 in
theorem rposi_any (w : World) (a : Option Addr) (n c : Nat) (ps : List PostV) (hr : RdPost w a n ps) (hn : ps.length ≤ 2000000) (u mv : Nat) (told : Bool) (hu : u ≤ ps.length + 1) (hmv : mv ≤ 1000000000000000) (hpl2 : (posU ps u).length ≤ 100000000) :
    Calls Tryd.prog 59 #[RcV a n c u mv told] w fun e w' => e = .returned (RcV a n c u (if told = true then mv else mv + (posU ps u).length) true) ∧ Below w.heap.size w w' := by
  obtain ⟨pl, hpl⟩ : ∃ pl : Int, (u : Int) - 1 = pl := ⟨_, rfl⟩
  have hn1 := hr.1
  have D1 := fun (W : World) (hb : Below w.heap.size w W) => rhere_any w W hb a n c ps hr hn u hu pl hpl mv told
  unfold RcV
  rw [hpl]
  have HW := Lib.hid (boxR_of w a n c pl mv told)
  have HD1 := Lib.hid D1
  obtain ⟨L, hL⟩ : ∃ L, (posU ps u).length = L := ⟨_, rfl⟩
  cases told with
  | true =>
    rw [if_pos rfl]
    clear hpl hu D1 HD1 hr hn1 hL hpl2
    go_enter Tryd.func59, Tryd.ntmps59
    go_upto_region 1 with fail
    generalize (w.alloc (.cells #[.slice a n c, .int .i64 pl, .int .i64 (mv : Nat), .bool true] 57)).alloc (.cells #[.slice none 0 0, .int .i64 0, .int .i64 0, .bool false] 57) = w1 at HW ⊢
    obtain ⟨z, hz⟩ : ∃ z, w.heap.size = z := ⟨_, rfl⟩
    rw [hz] at HW ⊢
    obtain ⟨z1, hz1⟩ : ∃ z1, z + 1 = z1 := ⟨_, rfl⟩
    have hres := HW.out.res
    rw [hz1] at hres ⊢
    have HZ1 := Lib.hid hz1
    have HZ := Lib.hid hz
    have hsz : z1 + 1 = w1.heap.size := by rw [HW.out.size]; omega
    clear hz hz1
    have c0 := HW.out.box.c0
    have c1 := HW.out.box.c1
    have c2 := HW.out.box.c2
    have c3 := HW.out.box.c3
    have HRES := Lib.hid hres
    clear hres
    have hrX := HRES.out
    have hbX := HW.out.bel
    have hzX : z1 < w1.heap.size := by omega
    clear HW HRES hsz
    have r0 := hrX.c0
    have r1 := hrX.c1
    have r2 := hrX.c2
    have r3 := hrX.c3
    have f0 := blk_frozen hrX.blk 0
    have f1 := blk_frozen hrX.blk 1
    have f2 := blk_frozen hrX.blk 2
    have f3 := blk_frozen hrX.blk 3
    have hfin : RcB ((((w1.setCell ⟨z1, 0, none⟩ (.slice a n c)).setCell ⟨z1, 1, none⟩ (.int .i64 pl)).setCell ⟨z1, 2, none⟩ (.int .i64 (mv : Nat))).setCell ⟨z1, 3, none⟩ (.bool true)) z1 a n c pl mv true := rc_store hrX
    have heff := rc_eff (w := w1) (z := z1) (.slice a n c) (.int .i64 pl) (.int .i64 (mv : Nat)) (.bool true)
    have hz1 := HZ1.out
    have hbN := hbX.trans (eff_below (B := z) heff (by omega) (by omega))
    have HFIN := Lib.hid hfin
    have HBN := Lib.hid hbN
    clear hz1 hfin heff hbN
    go_wp2
    generalize ((((w1.setCell ⟨z1, 0, none⟩ (.slice a n c)).setCell ⟨z1, 1, none⟩ (.int .i64 pl)).setCell ⟨z1, 2, none⟩ (.int .i64 (mv : Nat))).setCell ⟨z1, 3, none⟩ (.bool true)) = w9 at HFIN HBN ⊢
    have z0 := HFIN.out.c0
    have z1' := HFIN.out.c1
    have z2 := HFIN.out.c2
    have z3 := HFIN.out.c3
    clear r0 r1 r2 r3 f0 f1 f2 f3 c0 c1 c2 c3
    try simp only [Exit.inBlock, Exit.then]
    refine bodyPost_ret (by simp [results, Tryd.results59, go_sem, z0, z1', z2, z3]; try rfl) rfl ?_
    exact ⟨rfl, by first | exact HBN.out | (rw [HZ.out]; exact HBN.out)⟩
  | false =>
    rw [if_neg (by decide), hL]
    rw [hL] at hpl2
    obtain ⟨M, hM⟩ : ∃ M, mv + L = M := ⟨_, rfl⟩
    have s1 : IntKind.i64.wrap ((mv : Int) + (L : Int)) = (M : Int) := by rw [IntKind.wrap_i64]; omega
    rw [hM]
    have HL := Lib.hid hL
    clear hpl hu D1 hr hn1 hL hM hpl2
    go_enter Tryd.func59, Tryd.ntmps59
    go_upto_region 1 with fail
    generalize (w.alloc (.cells #[.slice a n c, .int .i64 pl, .int .i64 (mv : Nat), .bool false] 57)).alloc (.cells #[.slice none 0 0, .int .i64 0, .int .i64 0, .bool false] 57) = w1 at HW ⊢
    obtain ⟨z, hz⟩ : ∃ z, w.heap.size = z := ⟨_, rfl⟩
    rw [hz] at HW ⊢
    obtain ⟨z1, hz1⟩ : ∃ z1, z + 1 = z1 := ⟨_, rfl⟩
    have hres := HW.out.res
    rw [hz1] at hres ⊢
    have HZ1 := Lib.hid hz1
    have HZ := Lib.hid hz
    have hsz : z1 + 1 = w1.heap.size := by rw [HW.out.size]; omega
    clear hz hz1
    have c0 := HW.out.box.c0
    have c1 := HW.out.box.c1
    have c2 := HW.out.box.c2
    have c3 := HW.out.box.c3
    have HRES := Lib.hid hres
    clear hres
    have hbox := HW.out.box
    have hbel : Below w.heap.size w w1 := by rw [HZ.out]; exact HW.out.bel
    have hbel2 := HW.out.bel
    have HBOX := Lib.hid hbox
    have HBEL := Lib.hid hbel
    have HBEL2 := Lib.hid hbel2
    clear hbox hbel hbel2 HW
    go_upto_region 2 with fail
    go_cut [] (fun wx => RcB wx z a n c pl M false ∧ RcB wx z1 none 0 0 0 0 false ∧ Below z w wx ∧ z1 < wx.heap.size)
    case first =>
      refine wp_region_any (by kernel_rfl) ?_
      change wpAny _ _ _ _ _ _ _ (World.drew _)
      clear c0 c1 c2 c3
      have D2 := HD1.out w1.drew (HBEL.out.drew)
      obtain ⟨X0, hX0⟩ : ∃ X0, X0 = w1.drew := ⟨_, rfl⟩
      rw [← hX0] at D2 ⊢
      have hb1 : RcB X0 z a n c pl mv false := by rw [hX0]; exact ⟨HBOX.out.blk⟩
      have hb2 : RcB X0 z1 none 0 0 0 0 false := by rw [hX0]; exact ⟨HRES.out.blk⟩
      have hb3 : Below z w X0 := by rw [hX0]; exact HBEL2.out.drew
      have hb4 : z1 < X0.heap.size := by rw [hX0]; show z1 < w1.heap.size; omega
      clear hX0 HBOX HRES HBEL HBEL2 hsz
      refine wpAny_take (i := 0) (v := ?_) rfl (by kernel_rfl) (by kernel_rfl) (by kernel_rfl) (fun _ _ _ h => h) (Or.inl ⟨by kernel_rfl, ?_⟩) ?_
      rotate_left
      · intro w; go_simp; try with_reducible rfl
      refine wpAny_ready (rs := [1, 2]) (by kernel_rfl) (by simp) ?_
      refine AllReady.cons rfl (fun KK hKK => ?_) ?_
      · rw [if_pos (by kernel_rfl)]
        have c2 := hb1.c2
        go_simp
        clear c2
        refine hKK _ _ ?_
        clear hKK KK
        refine wpAny_ready (rs := [2]) (by kernel_rfl) (by simp) ?_
        refine AllReady.cons rfl (fun KK hKK => ?_) ?_
        · rw [if_pos (by kernel_rfl)]
          have c0 := hb1.c0
          have c1 := hb1.c1
          have c2 := hb1.c2
          have c3 := hb1.c3
          go_simp
          clear c0 c1 c2 c3
          refine hKK _ _ ?_
          clear hKK KK
          refine wpAny_ready (rs := [3]) (by kernel_rfl) (by simp) ?_
          refine AllReady.cons rfl (fun KK hKK => ?_) ?_
          · rw [if_pos (by kernel_rfl)]
            go_simp
            go_wp2_with (go_at_call 58; (with_reducible refine D2.mono ?_); rintro e w2 ⟨A, C, rfl, -, hbe⟩)
            have hz1 := HZ1.out
            have hb1 := hb1.below hbe (by omega)
            have hb2 := hb2.below hbe hb4
            have hb3 := hb3.trans (hbe.mono (by omega))
            have hb4 := Nat.lt_of_lt_of_le hb4 hbe.size
            rw [HL.out]
            clear hbe D2 hz1
            refine wpAny_take (i := 4) (v := ?_) rfl (by kernel_rfl) (by kernel_rfl) (by kernel_rfl) (fun _ _ _ h => h) (Or.inl ⟨by kernel_rfl, ?_⟩) ?_
            rotate_left
            · intro w; go_simp; try with_reducible rfl
            refine wpAny_take (i := 5) (v := ?_) rfl (by kernel_rfl) (by kernel_rfl) (by kernel_rfl) (fun _ _ _ h => h) (Or.inl ⟨by kernel_rfl, ?_⟩) ?_
            rotate_left
            · intro w; go_simp; try with_reducible rfl
            refine wpAny_take (i := 6) (v := ?_) rfl (by kernel_rfl) (by kernel_rfl) (by kernel_rfl) (fun _ _ _ h => h) (Or.inl ⟨by kernel_rfl, ?_⟩) ?_
            rotate_left
            · intro w; go_simp; try with_reducible rfl
            refine wpAny_ready (rs := [7]) (by kernel_rfl) (by simp) ?_
            refine AllReady.cons rfl (fun KK hKK => ?_) ?_
            · rw [if_pos (by kernel_rfl)]
              have r2 := hb1.c2
              have f2 := blk_frozen hb1.blk 2
              have g1 : RcB (w2.setCell ⟨z, 2, none⟩ (.int .i64 (M : Nat))) z a n c pl M false := ⟨blk_set hb1.blk 2 _⟩
              have heff : Eff (· = z) w2 (w2.setCell ⟨z, 2, none⟩ (.int .i64 (M : Nat))) := Eff.setCell (F := fun i => i = z) (Eff.refl _ w2) (p := ⟨z, 2, none⟩) (fun _ => rfl) _
              have hz1 := HZ1.out
              have g2 : RcB (w2.setCell ⟨z, 2, none⟩ (.int .i64 (M : Nat))) z1 none 0 0 0 0 false := ⟨(heff.block z1 hb4 (by omega)).trans hb2.blk⟩
              have g3 := hb3.trans (eff_below (B := z) heff (Nat.le_refl _) (by omega))
              have g4 := Nat.lt_of_lt_of_le hb4 heff.size
              have HG := Lib.hid (And.intro g1 (And.intro g2 (And.intro g3 g4)))
              clear heff g1 g2 g3 g4 hb1 hb2 hb3 hb4 hz1
              go_simp
              refine hKK _ _ ?_
              clear hKK KK
              refine wpAny_done (by kernel_rfl) ?_ _
              clear r2 f2
              go_wp2_with fail
              go_meet
              exact HG.out
            exact AllReady.nil
          exact AllReady.nil
        exact AllReady.nil
      refine AllReady.cons rfl (fun KK hKK => ?_) ?_
      · rw [if_pos (by kernel_rfl)]
        have c0 := hb1.c0
        have c1 := hb1.c1
        have c2 := hb1.c2
        have c3 := hb1.c3
        go_simp
        clear c0 c1 c2 c3
        refine hKK _ _ ?_
        clear hKK KK
        refine wpAny_ready (rs := [1, 3]) (by kernel_rfl) (by simp) ?_
        refine AllReady.cons rfl (fun KK hKK => ?_) ?_
        · rw [if_pos (by kernel_rfl)]
          have c2 := hb1.c2
          go_simp
          clear c2
          refine hKK _ _ ?_
          clear hKK KK
          refine wpAny_ready (rs := [3]) (by kernel_rfl) (by simp) ?_
          refine AllReady.cons rfl (fun KK hKK => ?_) ?_
          · rw [if_pos (by kernel_rfl)]
            go_simp
            go_wp2_with (go_at_call 58; (with_reducible refine D2.mono ?_); rintro e w2 ⟨A, C, rfl, -, hbe⟩)
            have hz1 := HZ1.out
            have hb1 := hb1.below hbe (by omega)
            have hb2 := hb2.below hbe hb4
            have hb3 := hb3.trans (hbe.mono (by omega))
            have hb4 := Nat.lt_of_lt_of_le hb4 hbe.size
            rw [HL.out]
            clear hbe D2 hz1
            refine wpAny_take (i := 4) (v := ?_) rfl (by kernel_rfl) (by kernel_rfl) (by kernel_rfl) (fun _ _ _ h => h) (Or.inl ⟨by kernel_rfl, ?_⟩) ?_
            rotate_left
            · intro w; go_simp; try with_reducible rfl
            refine wpAny_take (i := 5) (v := ?_) rfl (by kernel_rfl) (by kernel_rfl) (by kernel_rfl) (fun _ _ _ h => h) (Or.inl ⟨by kernel_rfl, ?_⟩) ?_
            rotate_left
            · intro w; go_simp; try with_reducible rfl
            refine wpAny_take (i := 6) (v := ?_) rfl (by kernel_rfl) (by kernel_rfl) (by kernel_rfl) (fun _ _ _ h => h) (Or.inl ⟨by kernel_rfl, ?_⟩) ?_
            rotate_left
            · intro w; go_simp; try with_reducible rfl
            refine wpAny_ready (rs := [7]) (by kernel_rfl) (by simp) ?_
            refine AllReady.cons rfl (fun KK hKK => ?_) ?_
            · rw [if_pos (by kernel_rfl)]
              have r2 := hb1.c2
              have f2 := blk_frozen hb1.blk 2
              have g1 : RcB (w2.setCell ⟨z, 2, none⟩ (.int .i64 (M : Nat))) z a n c pl M false := ⟨blk_set hb1.blk 2 _⟩
              have heff : Eff (· = z) w2 (w2.setCell ⟨z, 2, none⟩ (.int .i64 (M : Nat))) := Eff.setCell (F := fun i => i = z) (Eff.refl _ w2) (p := ⟨z, 2, none⟩) (fun _ => rfl) _
              have hz1 := HZ1.out
              have g2 : RcB (w2.setCell ⟨z, 2, none⟩ (.int .i64 (M : Nat))) z1 none 0 0 0 0 false := ⟨(heff.block z1 hb4 (by omega)).trans hb2.blk⟩
              have g3 := hb3.trans (eff_below (B := z) heff (Nat.le_refl _) (by omega))
              have g4 := Nat.lt_of_lt_of_le hb4 heff.size
              have HG := Lib.hid (And.intro g1 (And.intro g2 (And.intro g3 g4)))
              clear heff g1 g2 g3 g4 hb1 hb2 hb3 hb4 hz1
              go_simp
              refine hKK _ _ ?_
              clear hKK KK
              refine wpAny_done (by kernel_rfl) ?_ _
              clear r2 f2
              go_wp2_with fail
              go_meet
              exact HG.out
            exact AllReady.nil
          exact AllReady.nil
        refine AllReady.cons rfl (fun KK hKK => ?_) ?_
        · rw [if_pos (by kernel_rfl)]
          go_simp
          go_wp2_with (go_at_call 58; (with_reducible refine D2.mono ?_); rintro e w2 ⟨A, C, rfl, -, hbe⟩)
          have hz1 := HZ1.out
          have hb1 := hb1.below hbe (by omega)
          have hb2 := hb2.below hbe hb4
          have hb3 := hb3.trans (hbe.mono (by omega))
          have hb4 := Nat.lt_of_lt_of_le hb4 hbe.size
          rw [HL.out]
          clear hbe D2 hz1
          refine wpAny_take (i := 4) (v := ?_) rfl (by kernel_rfl) (by kernel_rfl) (by kernel_rfl) (fun _ _ _ h => h) (Or.inl ⟨by kernel_rfl, ?_⟩) ?_
          rotate_left
          · intro w; go_simp; try with_reducible rfl
          refine wpAny_ready (rs := [1]) (by kernel_rfl) (by simp) ?_
          refine AllReady.cons rfl (fun KK hKK => ?_) ?_
          · rw [if_pos (by kernel_rfl)]
            have c2 := hb1.c2
            go_simp
            clear c2
            refine hKK _ _ ?_
            clear hKK KK
            refine wpAny_take (i := 5) (v := ?_) rfl (by kernel_rfl) (by kernel_rfl) (by kernel_rfl) (fun _ _ _ h => h) (Or.inl ⟨by kernel_rfl, ?_⟩) ?_
            rotate_left
            · intro w; go_simp; try with_reducible rfl
            refine wpAny_take (i := 6) (v := ?_) rfl (by kernel_rfl) (by kernel_rfl) (by kernel_rfl) (fun _ _ _ h => h) (Or.inl ⟨by kernel_rfl, ?_⟩) ?_
            rotate_left
            · intro w; go_simp; try with_reducible rfl
            refine wpAny_ready (rs := [7]) (by kernel_rfl) (by simp) ?_
            refine AllReady.cons rfl (fun KK hKK => ?_) ?_
            · rw [if_pos (by kernel_rfl)]
              have r2 := hb1.c2
              have f2 := blk_frozen hb1.blk 2
              have g1 : RcB (w2.setCell ⟨z, 2, none⟩ (.int .i64 (M : Nat))) z a n c pl M false := ⟨blk_set hb1.blk 2 _⟩
              have heff : Eff (· = z) w2 (w2.setCell ⟨z, 2, none⟩ (.int .i64 (M : Nat))) := Eff.setCell (F := fun i => i = z) (Eff.refl _ w2) (p := ⟨z, 2, none⟩) (fun _ => rfl) _
              have hz1 := HZ1.out
              have g2 : RcB (w2.setCell ⟨z, 2, none⟩ (.int .i64 (M : Nat))) z1 none 0 0 0 0 false := ⟨(heff.block z1 hb4 (by omega)).trans hb2.blk⟩
              have g3 := hb3.trans (eff_below (B := z) heff (Nat.le_refl _) (by omega))
              have g4 := Nat.lt_of_lt_of_le hb4 heff.size
              have HG := Lib.hid (And.intro g1 (And.intro g2 (And.intro g3 g4)))
              clear heff g1 g2 g3 g4 hb1 hb2 hb3 hb4 hz1
              go_simp
              refine hKK _ _ ?_
              clear hKK KK
              refine wpAny_done (by kernel_rfl) ?_ _
              clear r2 f2
              go_wp2_with fail
              go_meet
              exact HG.out
            exact AllReady.nil
          exact AllReady.nil
        exact AllReady.nil
      exact AllReady.nil
    case rest =>
    obtain ⟨hb1, hb2, hb3, hb4⟩ := hcut
    have hz1 := HZ1.out
    have c0 := hb1.c0
    have c1 := hb1.c1
    have c2 := hb1.c2
    have c3 := hb1.c3
    have f3 := blk_frozen hb1.blk 3
    have g1 : RcB (wc.setCell ⟨z, 3, none⟩ (.bool true)) z a n c pl M true := ⟨blk_set hb1.blk 3 _⟩
    have heff : Eff (· = z) wc (wc.setCell ⟨z, 3, none⟩ (.bool true)) := Eff.setCell (F := fun i => i = z) (Eff.refl _ wc) (p := ⟨z, 3, none⟩) (fun _ => rfl) _
    have hrX : RcB (wc.setCell ⟨z, 3, none⟩ (.bool true)) z1 none 0 0 0 0 false := ⟨(heff.block z1 hb4 (by omega)).trans hb2.blk⟩
    have hbX := hb3.trans (eff_below (B := z) heff (Nat.le_refl _) (by omega))
    have hzX := Nat.lt_of_lt_of_le hb4 heff.size
    clear heff hb1 hb2 hb3 hb4 HBOX HBEL HBEL2 HRES hsz HD1 HL s1 hz1
    go_upto_region 4 with fail
    generalize wc.setCell ⟨z, 3, none⟩ (.bool true) = w5 at g1 hrX hbX hzX ⊢
    clear c0 c1 c2 c3 f3
    have c0 := g1.c0
    have c1 := g1.c1
    have c2 := g1.c2
    have c3 := g1.c3
    clear g1
    have r0 := hrX.c0
    have r1 := hrX.c1
    have r2 := hrX.c2
    have r3 := hrX.c3
    have f0 := blk_frozen hrX.blk 0
    have f1 := blk_frozen hrX.blk 1
    have f2 := blk_frozen hrX.blk 2
    have f3 := blk_frozen hrX.blk 3
    have hfin : RcB ((((w5.setCell ⟨z1, 0, none⟩ (.slice a n c)).setCell ⟨z1, 1, none⟩ (.int .i64 pl)).setCell ⟨z1, 2, none⟩ (.int .i64 (M : Nat))).setCell ⟨z1, 3, none⟩ (.bool true)) z1 a n c pl M true := rc_store hrX
    have heff := rc_eff (w := w5) (z := z1) (.slice a n c) (.int .i64 pl) (.int .i64 (M : Nat)) (.bool true)
    have hz1 := HZ1.out
    have hbN := hbX.trans (eff_below (B := z) heff (by omega) (by omega))
    have HFIN := Lib.hid hfin
    have HBN := Lib.hid hbN
    clear hz1 hfin heff hbN
    go_wp2
    generalize ((((w5.setCell ⟨z1, 0, none⟩ (.slice a n c)).setCell ⟨z1, 1, none⟩ (.int .i64 pl)).setCell ⟨z1, 2, none⟩ (.int .i64 (M : Nat))).setCell ⟨z1, 3, none⟩ (.bool true)) = w9 at HFIN HBN ⊢
    have z0 := HFIN.out.c0
    have z1' := HFIN.out.c1
    have z2 := HFIN.out.c2
    have z3 := HFIN.out.c3
    clear r0 r1 r2 r3 f0 f1 f2 f3 c0 c1 c2 c3
    try simp only [Exit.inBlock, Exit.then]
    refine bodyPost_ret (by simp [results, Tryd.results59, go_sem, z0, z1', z2, z3]; try rfl) rfl ?_
    exact ⟨rfl, by first | exact HBN.out | (rw [HZ.out]; exact HBN.out)⟩
end Go.Proofs.YtaijepjhmjjecaaDoor
