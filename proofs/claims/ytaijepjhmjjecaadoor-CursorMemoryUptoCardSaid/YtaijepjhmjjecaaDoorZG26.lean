/- Merged: DocC, DocC2. -/
import Derived.Test.YtaijepjhmjjecaaDoorZG18
import Derived.Test.YtaijepjhmjjecaaDoorZG2
import Derived.Test.YtaijepjhmjjecaaDoorZG21
import Derived.Deep.RegionHeld3
/- cursor: the document's cursor: Doc, Docs, Total, Here, cost. -/
namespace Go.Proofs.YtaijepjhmjjecaaDoor
set_option linter.unusedVariables false
open Go.ChangeShapes Go.WideShapes Go.ChangeAt Go.RowKit

/-- The document's cursor: its cells. -/
def rcC (a : Option Addr) (n c : Nat) (pl : Int) (mv : Nat) (told : Bool) : Array Value := #[.slice a n c, .int .i64 pl, .int .i64 (mv : Nat), .bool told]
/-- A block of one. -/
structure RcB (w : World) (z : Nat) (a : Option Addr) (n c : Nat) (pl : Int) (mv : Nat) (told : Bool) : Prop where
  blk : w.heap[z]? = some (.cells #[.slice a n c, .int .i64 pl, .int .i64 (mv : Nat), .bool told] 57 (0, 0))
theorem RcB.c0 {w : World} {z : Nat} {a : Option Addr} {n c : Nat} {pl : Int} {mv : Nat} {told : Bool} (h : RcB w z a n c pl mv told) : w.cell? ⟨z, 0, none⟩ = some (.slice a n c) := blk_cell h.blk 0
theorem RcB.c1 {w : World} {z : Nat} {a : Option Addr} {n c : Nat} {pl : Int} {mv : Nat} {told : Bool} (h : RcB w z a n c pl mv told) : w.cell? ⟨z, 1, none⟩ = some (.int .i64 pl) := blk_cell h.blk 1
theorem RcB.c2 {w : World} {z : Nat} {a : Option Addr} {n c : Nat} {pl : Int} {mv : Nat} {told : Bool} (h : RcB w z a n c pl mv told) : w.cell? ⟨z, 2, none⟩ = some (.int .i64 (mv : Nat)) := blk_cell h.blk 2
theorem RcB.c3 {w : World} {z : Nat} {a : Option Addr} {n c : Nat} {pl : Int} {mv : Nat} {told : Bool} (h : RcB w z a n c pl mv told) : w.cell? ⟨z, 3, none⟩ = some (.bool told) := blk_cell h.blk 3
theorem RcB.below {B : Nat} {w w' : World} {z : Nat} {a : Option Addr} {n c : Nat} {pl : Int} {mv : Nat} {told : Bool} (h : RcB w z a n c pl mv told) (hb : Below B w w') (hB : z < B) : RcB w' z a n c pl mv told := ⟨(hb.block z hB).trans h.blk⟩
/-- What a function knows behind its parameter has been laid. -/
structure BoxW (w w1 : World) (z : Nat) (a : Option Addr) (n c : Nat) (pl : Int) (mv : Nat) (told : Bool) : Prop where
  box : RcB w1 z a n c pl mv told
  bel : Below z w w1
  size : w1.heap.size = z + 1
theorem boxW_of (w : World) (a : Option Addr) (n c : Nat) (pl : Int) (mv : Nat) (told : Bool) : BoxW w (w.alloc (.cells #[.slice a n c, .int .i64 pl, .int .i64 (mv : Nat), .bool told] 57)) w.heap.size a n c pl mv told :=
  ⟨⟨heap_alloc_new w _⟩, (Below.refl _ w).alloc (Nat.le_refl _) _, by simp⟩
theorem RdPost.at2 {w : World} {a : Option Addr} {n : Nat} {ps : List PostV} (h : RdPost w a n ps) {i : Nat} (hi : i < ps.length) : ∃ b o A C, a = some ⟨b, o, none⟩ ∧ w.cell? ⟨b, o + i * 2, none⟩ = some (.int .i64 ps[i].doc) ∧ w.cell? ⟨b, o + i * 2 + 1, none⟩ = some (.slice A ps[i].pos.length C) ∧ Rd w (.slice A ps[i].pos.length C) (intL ps[i].pos) := by
  obtain ⟨b, o, e, hg⟩ := h.2 (by omega)
  obtain ⟨h1, A, C, h2, h3⟩ := hg i hi
  exact ⟨b, o, A, C, e, h1, h2, h3⟩
set_option maxRecDepth 100000 in
theorem rdoc_any (w : World) (a : Option Addr) (n c : Nat) (ps : List PostV) (hr : RdPost w a n ps) (hl : ps.length ≤ 2000000) (u : Nat) (hu : u ≤ ps.length + 1) (pl : Int) (hpl : (u : Int) - 1 = pl) (mv : Nat) (told : Bool) :
    Calls Tryd.prog 31 #[.agg #[.slice a n c, .int .i64 pl, .int .i64 (mv : Nat), .bool told]] w fun e w' => e = .returned (.int .i64 (docU ps u)) ∧ Below w.heap.size w w' := by
  obtain rfl := hr.1
  have HW := Lib.hid (boxW_of w a ps.length c pl mv told)
  have hz : w.heap.size = w.heap.size := rfl
  by_cases h0 : u = 0
  · subst h0
    have t1 : decide (pl < 0) = true := decide_eq_true (by omega)
    rw [docU_zero]
    clear hpl hu hr
    go_enter Tryd.func31, Tryd.ntmps31
    go_upto_region 1 with fail
    generalize w.alloc (.cells #[.slice a ps.length c, .int .i64 pl, .int .i64 (mv : Nat), .bool told] 57) = w1 at HW ⊢
    obtain ⟨z, hz⟩ : ∃ z, w.heap.size = z := ⟨_, rfl⟩
    rw [hz] at HW ⊢
    have HZ := Lib.hid hz
    clear hz
    have c1 := HW.out.box.c1
    go_wp2
    go_ret
    exact ⟨rfl, by first | exact HW.out.bel | (rw [HZ.out]; exact HW.out.bel)⟩
  · obtain ⟨p, rfl⟩ : ∃ p, u = p + 1 := ⟨u - 1, by omega⟩
    obtain rfl : pl = (p : Int) := by omega
    have t1 : decide ((p : Int) < 0) = false := decide_eq_false (by omega)
    by_cases hp : p < ps.length
    · have t2 : decide (ps.length ≤ p) = false := decide_eq_false (by omega)
      rw [docU_at hp]
      have hrb := hr.below (boxW_of w a ps.length c p mv told).bel (Nat.le_refl _)
      obtain ⟨b, o, A, C, rfl, x0, -⟩ := hrb.at2 hp
      obtain ⟨d, hd⟩ : ∃ d, ps[p].doc = d := ⟨_, rfl⟩
      rw [hd] at x0 ⊢
      have i1 : (p : Int) < (ps.length : Int) := by omega
      clear hpl hu hr hrb hd h0
      go_enter Tryd.func31, Tryd.ntmps31
      go_upto_region 1 with fail
      generalize w.alloc (.cells #[.slice (some ⟨b, o, none⟩) ps.length c, .int .i64 (p : Int), .int .i64 (mv : Nat), .bool told] 57) = w1 at HW x0 ⊢
      obtain ⟨z, hz⟩ : ∃ z, w.heap.size = z := ⟨_, rfl⟩
      rw [hz] at HW ⊢
      have HZ := Lib.hid hz
      clear hz
      have c1 := HW.out.box.c1
      have c0 := HW.out.box.c0
      go_wp2
      go_ret
      exact ⟨rfl, by first | exact HW.out.bel | (rw [HZ.out]; exact HW.out.bel)⟩
    · obtain rfl : p = ps.length := by omega
      have t2 : decide (ps.length ≤ ps.length) = true := decide_eq_true (Nat.le_refl _)
      rw [docU_end (by omega)]
      clear hpl hu hr h0
      go_enter Tryd.func31, Tryd.ntmps31
      go_upto_region 1 with fail
      generalize w.alloc (.cells #[.slice a ps.length c, .int .i64 (ps.length : Int), .int .i64 (mv : Nat), .bool told] 57) = w1 at HW ⊢
      obtain ⟨z, hz⟩ : ∃ z, w.heap.size = z := ⟨_, rfl⟩
      rw [hz] at HW ⊢
      have HZ := Lib.hid hz
      clear hz
      have c1 := HW.out.box.c1
      have c0 := HW.out.box.c0
      go_wp2
      go_ret
      exact ⟨rfl, by first | exact HW.out.bel | (rw [HZ.out]; exact HW.out.bel)⟩
theorem rdocs_any (w : World) (a : Option Addr) (n c : Nat) (pl : Int) (mv : Nat) (told : Bool) :
    Calls Tryd.prog 60 #[.agg #[.slice a n c, .int .i64 pl, .int .i64 (mv : Nat), .bool told]] w fun e w' => e = .returned (.int .i64 (n : Nat)) ∧ Below w.heap.size w w' := by
  have HW := Lib.hid (boxW_of w a n c pl mv told)
  go_enter Tryd.func60, Tryd.ntmps60
  go_upto_region 1 with fail
  generalize w.alloc (.cells #[.slice a n c, .int .i64 pl, .int .i64 (mv : Nat), .bool told] 57) = w1 at HW ⊢
  obtain ⟨z, hz⟩ : ∃ z, w.heap.size = z := ⟨_, rfl⟩
  rw [hz] at HW ⊢
  have HZ := Lib.hid hz
  clear hz
  have c0 := HW.out.box.c0
  go_wp2
  go_ret
  exact ⟨rfl, by first | exact HW.out.bel | (rw [HZ.out]; exact HW.out.bel)⟩
set_option maxRecDepth 100000 in
theorem rtotC_any (w : World) (a : Option Addr) (n c : Nat) (ps : List PostV) (hr : RdPost w a n ps) (hl : ps.length ≤ 2000000) (hT : totalV ps ≤ 20000000) (pl : Int) (mv : Nat) (told : Bool) :
    Calls Tryd.prog 61 #[.agg #[.slice a n c, .int .i64 pl, .int .i64 (mv : Nat), .bool told]] w fun e w' => e = .returned (.int .i64 (totalV ps : Nat)) ∧ Below w.heap.size w w' := by
  obtain rfl := hr.1
  have HW := Lib.hid (boxW_of w a ps.length c pl mv told)
  have HR := Lib.hid (hr.below (boxW_of w a ps.length c pl mv told).bel (Nat.le_refl _))
  clear hr
  go_enter Tryd.func61, Tryd.ntmps61
  go_upto_region 1 with fail
  generalize w.alloc (.cells #[.slice a ps.length c, .int .i64 pl, .int .i64 (mv : Nat), .bool told] 57) = w1 at HW HR ⊢
  obtain ⟨z, hz⟩ : ∃ z, w.heap.size = z := ⟨_, rfl⟩
  rw [hz] at HW ⊢
  have HZ := Lib.hid hz
  clear hz
  have c0 := HW.out.box.c0
  go_wp2
  go_loopw [3, 4] (fun s3 s4 wr => ∃ i : Nat, s3 = .int .i64 (totalV (ps.take i) : Nat) ∧ s4 = .int .i64 i ∧ i ≤ ps.length ∧ wr = w1) (fun _ s4 _ => ps.length - (intOf s4).toNat)
  case atStart => exact ⟨0, by simp [totalV], rfl, Nat.zero_le _, rfl⟩
  case round =>
    obtain ⟨i, rfl, rfl, hi, rfl⟩ := hrel
    by_cases hlt : i < ps.length
    · obtain ⟨b, o, A, C, rfl, -, x1, -⟩ := HR.out.at2 hlt
      have h1 := totalV_take ps i hlt
      have h2 := totalV_split ps (i + 1)
      obtain ⟨m, hm⟩ : ∃ m, ps[i].pos.length = m := ⟨_, rfl⟩
      obtain ⟨T0, hT0⟩ : ∃ m, totalV (ps.take i) = m := ⟨_, rfl⟩
      rw [hm] at h1 x1
      rw [hT0] at h1 ⊢
      have HT := Lib.hid h1
      have i1 : (i : Int) < (ps.length : Int) := by omega
      have s1 : IntKind.i64.wrap ((T0 : Int) + (m : Int)) = ((T0 + m : Nat) : Int) := by rw [IntKind.wrap_i64]; omega
      clear hm hT0 h1 h2 hlt
      go_wp2
      go_roundw
      case rel => exact ⟨i + 1, by rw [HT.out] <;> first | rfl | go_num, by go_num, by omega, by first | rfl | trivial⟩
      case measure => simp [intOf]; omega
    · obtain rfl : i = ps.length := by omega
      have i1 : ¬ ((ps.length : Int) < (ps.length : Int)) := by omega
      rw [List.take_length]
      clear hlt
      go_wp2
      go_ret
      exact ⟨rfl, by first | exact HW.out.bel | (rw [HZ.out]; exact HW.out.bel)⟩
set_option maxRecDepth 100000 in
theorem rhere_any (w0 w : World) (hw : Below w0.heap.size w0 w) (a : Option Addr) (n c : Nat) (ps : List PostV) (hr : RdPost w0 a n ps) (hl : ps.length ≤ 2000000) (u : Nat) (hu : u ≤ ps.length + 1) (pl : Int) (hpl : (u : Int) - 1 = pl) (mv : Nat) (told : Bool) :
    Calls Tryd.prog 58 #[.agg #[.slice a n c, .int .i64 pl, .int .i64 (mv : Nat), .bool told]] w fun e w' => ∃ A C, e = .returned (.slice A (posU ps u).length C) ∧ Rd w0 (.slice A (posU ps u).length C) (intL (posU ps u)) ∧ Below w.heap.size w w' := by
  obtain rfl := hr.1
  have HW := Lib.hid (boxW_of w a ps.length c pl mv told)
  by_cases h0 : u = 0
  · subst h0
    have t1 : decide (pl < 0) = true := decide_eq_true (by omega)
    rw [posU_out (.inl rfl)]
    clear hpl hu hr
    go_enter Tryd.func58, Tryd.ntmps58
    go_upto_region 1 with fail
    generalize w.alloc (.cells #[.slice a ps.length c, .int .i64 pl, .int .i64 (mv : Nat), .bool told] 57) = w1 at HW ⊢
    obtain ⟨z, hz⟩ : ∃ z, w.heap.size = z := ⟨_, rfl⟩
    rw [hz] at HW ⊢
    have HZ := Lib.hid hz
    clear hz
    have c1 := HW.out.box.c1
    go_wp2
    go_ret
    exact ⟨none, 0, rfl, (own_nil w0 0 3).rd, by first | exact HW.out.bel | (rw [HZ.out]; exact HW.out.bel)⟩
  · obtain ⟨p, rfl⟩ : ∃ p, u = p + 1 := ⟨u - 1, by omega⟩
    obtain rfl : pl = (p : Int) := by omega
    have t1 : decide ((p : Int) < 0) = false := decide_eq_false (by omega)
    by_cases hp : p < ps.length
    · have t2 : decide (ps.length ≤ p) = false := decide_eq_false (by omega)
      rw [posU_at hp]
      obtain ⟨b, o, A, C, rfl, -, x1, x2⟩ := hr.at2 hp
      have x0 := (hw.cell (World.block_lt_of_cell? w0 _ x1)).trans x1
      have x1 := (boxW_of w (some ⟨b, o, none⟩) ps.length c p mv told).bel.cell (World.block_lt_of_cell? w _ x0) |>.trans x0
      obtain ⟨d, hd⟩ : ∃ d, ps[p].pos = d := ⟨_, rfl⟩
      rw [hd] at x1 x2 ⊢
      have i1 : (p : Int) < (ps.length : Int) := by omega
      have HX := Lib.hid x2
      clear hpl hu hr hd h0 x2 x0
      go_enter Tryd.func58, Tryd.ntmps58
      go_upto_region 1 with fail
      generalize w.alloc (.cells #[.slice (some ⟨b, o, none⟩) ps.length c, .int .i64 (p : Int), .int .i64 (mv : Nat), .bool told] 57) = w1 at HW x1 ⊢
      obtain ⟨z, hz⟩ : ∃ z, w.heap.size = z := ⟨_, rfl⟩
      rw [hz] at HW ⊢
      have HZ := Lib.hid hz
      clear hz
      have c1 := HW.out.box.c1
      have c0 := HW.out.box.c0
      go_wp2
      go_ret
      exact ⟨_, _, rfl, HX.out, by first | exact HW.out.bel | (rw [HZ.out]; exact HW.out.bel)⟩
    · obtain rfl : p = ps.length := by omega
      have t2 : decide (ps.length ≤ ps.length) = true := decide_eq_true (Nat.le_refl _)
      rw [posU_out (.inr (by omega))]
      clear hpl hu hr h0
      go_enter Tryd.func58, Tryd.ntmps58
      go_upto_region 1 with fail
      generalize w.alloc (.cells #[.slice a ps.length c, .int .i64 (ps.length : Int), .int .i64 (mv : Nat), .bool told] 57) = w1 at HW ⊢
      obtain ⟨z, hz⟩ : ∃ z, w.heap.size = z := ⟨_, rfl⟩
      rw [hz] at HW ⊢
      have HZ := Lib.hid hz
      clear hz
      have c1 := HW.out.box.c1
      have c0 := HW.out.box.c0
      go_wp2
      go_ret
      exact ⟨none, 0, rfl, (own_nil w0 0 3).rd, by first | exact HW.out.bel | (rw [HZ.out]; exact HW.out.bel)⟩
set_option maxRecDepth 100000 in
theorem cost_any (w : World) (n u q : Nat) (hn : n ≤ 2000000) (hu : u ≤ q) (hq : q ≤ n) (pl : Int) (hpl : (u : Int) - 1 = pl) :
    Calls Tryd.prog 111 #[.int .i64 pl, .int .i64 (q : Nat), .int .i64 (n : Nat)] w fun e w' => e = .returned (.int .i64 (costU u q n : Nat)) ∧ w = w' := by
  have s1 : IntKind.i64.wrap (pl + 1) = (u : Int) := by rw [IntKind.wrap_i64]; omega
  by_cases h1 : q = n
  · subst h1
    have t1 : ((q : Int) == (q : Int)) = true := by simp
    by_cases h2 : u = q
    · subst h2
      have t2 : ((u : Int) == (u : Int)) = true := by simp
      have e : costU u u u = 1 := by unfold costU; rw [if_pos rfl, if_pos rfl]
      rw [e]
      clear e hu hq hpl
      go_enter Tryd.func111, Tryd.ntmps111
      go_wp2
      go_ret
      exact ⟨rfl, rfl⟩
    · have t2 : ((u : Int) == (q : Int)) = false := beq_false_of_ne (by omega)
      have e : costU u q q = (q + 15) / 16 - u / 16 + 1 := by unfold costU; rw [if_pos rfl, if_neg h2]
      rw [e]
      have HU := Lib.hid hu
      clear e h2 hu hq hpl
      go_enter Tryd.func111, Tryd.ntmps111
      go_wp2
      clear s1 t1 t2
      go_ret
      have hu := HU.out
      exact ⟨congrArg (fun x => Ending.returned (Value.int IntKind.i64 x)) (by unfold wrap64; omega), rfl⟩
  · have t1 : ((q : Int) == (n : Int)) = false := beq_false_of_ne (by omega)
    obtain ⟨A, hA⟩ : ∃ A, q / 16 = A := ⟨_, rfl⟩
    obtain ⟨B, hB⟩ : ∃ B, u / 16 = B := ⟨_, rfl⟩
    have s4 : IntKind.i64.wrap ((q : Int) / 16) = (A : Int) := by rw [IntKind.wrap_i64]; omega
    have s5 : IntKind.i64.wrap ((u : Int) / 16) = (B : Int) := by rw [IntKind.wrap_i64]; omega
    have HA := Lib.hid hA
    have HB := Lib.hid hB
    have HU := Lib.hid hu
    have HP := Lib.hid hpl
    have HN := Lib.hid hn
    have HQ := Lib.hid hq
    by_cases h2 : u / 16 = q / 16
    · have t2 : ((B : Int) == (A : Int)) = true := by rw [← hA, ← hB, h2]; simp
      have t3 : B = A := by omega
      have e : costU u q n = q + 1 - u := by unfold costU; rw [if_neg h1, if_pos h2]
      rw [e]
      subst t3
      clear e h1 h2 hu hq hpl hA hB
      go_enter Tryd.func111, Tryd.ntmps111
      go_wp2
      clear s1 s4 s5 t1 t2
      go_ret
      have hu := HU.out
      have hp := HP.out
      have hq := HQ.out
      exact ⟨congrArg (fun x => Ending.returned (Value.int IntKind.i64 x)) (by unfold wrap64; omega), rfl⟩
    · have t2 : ((B : Int) == (A : Int)) = false := beq_false_of_ne (by omega)
      have t3 : ¬ B = A := by omega
      have e : costU u q n = q / 16 - u / 16 + q % 16 + 1 := by unfold costU; rw [if_neg h1, if_neg h2]
      rw [e]
      clear e h1 h2 hu hq hpl hA hB
      go_enter Tryd.func111, Tryd.ntmps111
      go_wp2
      clear s1 s4 s5 t1 t2 t3
      go_ret
      have hu := HU.out
      have hq := HQ.out
      have hA := HA.out
      have hB := HB.out
      exact ⟨congrArg (fun x => Ending.returned (Value.int IntKind.i64 x)) (by unfold wrap64; omega), rfl⟩
end Go.Proofs.YtaijepjhmjjecaaDoor

/- cursor: the document's cursor: Open, to, Next, Advance, Positions. -/
namespace Go.Proofs.YtaijepjhmjjecaaDoor
set_option linter.unusedVariables false
open Go.ChangeShapes Go.WideShapes Go.ChangeAt Go.RowKit

/-- The document's cursor at the place u - 1. -/
def RcV (a : Option Addr) (n c : Nat) (u mv : Nat) (told : Bool) : Value := .agg #[.slice a n c, .int .i64 ((u : Int) - 1), .int .i64 (mv : Nat), .bool told]
theorem rc_store {w : World} {z : Nat} {a a' : Option Addr} {n c n' c' : Nat} {pl pl' : Int} {mv mv' : Nat} {told told' : Bool} (h : RcB w z a n c pl mv told) :
    RcB ((((w.setCell ⟨z, 0, none⟩ (.slice a' n' c')).setCell ⟨z, 1, none⟩ (.int .i64 pl')).setCell ⟨z, 2, none⟩ (.int .i64 (mv' : Nat))).setCell ⟨z, 3, none⟩ (.bool told')) z a' n' c' pl' mv' told' :=
  ⟨blk_set (blk_set (blk_set (blk_set h.blk 0 _) 1 _) 2 _) 3 _⟩
theorem rc_eff {w : World} {z : Nat} (v0 v1 v2 v3 : Value) : Eff (· = z) w ((((w.setCell ⟨z, 0, none⟩ v0).setCell ⟨z, 1, none⟩ v1).setCell ⟨z, 2, none⟩ v2).setCell ⟨z, 3, none⟩ v3) :=
  Eff.setCell (F := fun i => i = z) (Eff.setCell (F := fun i => i = z) (Eff.setCell (F := fun i => i = z) (Eff.setCell (F := fun i => i = z) (Eff.refl _ w) (p := ⟨z, 0, none⟩) (fun _ => rfl) _) (p := ⟨z, 1, none⟩) (fun _ => rfl) _) (p := ⟨z, 2, none⟩) (fun _ => rfl) _) (p := ⟨z, 3, none⟩) (fun _ => rfl) _
theorem eff_below {w w' : World} {z B : Nat} (e : Eff (· = z) w w') (hz : B ≤ z) (hB : B ≤ w.heap.size) : Below B w w' := ⟨e.os, e.tape, e.output, e.size, fun k hk => e.block k (by omega) (by omega)⟩
/-- What a function knows behind its parameter and its result have been laid. -/
structure BoxR (w w1 : World) (z : Nat) (a : Option Addr) (n c : Nat) (pl : Int) (mv : Nat) (told : Bool) : Prop where
  box : RcB w1 z a n c pl mv told
  res : RcB w1 (z + 1) none 0 0 0 0 false
  bel : Below z w w1
  size : w1.heap.size = z + 2
theorem boxR_of (w : World) (a : Option Addr) (n c : Nat) (pl : Int) (mv : Nat) (told : Bool) : BoxR w ((w.alloc (.cells #[.slice a n c, .int .i64 pl, .int .i64 (mv : Nat), .bool told] 57)).alloc (.cells #[.slice none 0 0, .int .i64 0, .int .i64 0, .bool false] 57)) w.heap.size a n c pl mv told := by
  have h1 := boxW_of w a n c pl mv told
  have hb := (Below.refl (w.heap.size + 1) (w.alloc (.cells #[.slice a n c, .int .i64 pl, .int .i64 (mv : Nat), .bool told] 57))).alloc (by simp) (.cells #[.slice none 0 0, .int .i64 0, .int .i64 0, .bool false] 57)
  have hr := heap_alloc_new (w.alloc (.cells #[.slice a n c, .int .i64 pl, .int .i64 (mv : Nat), .bool told] 57)) (.cells #[.slice none 0 0, .int .i64 0, .int .i64 0, .bool false] 57)
  rw [h1.size] at hr
  exact ⟨h1.box.below hb (by omega), ⟨hr⟩, h1.bel.trans (hb.mono (by omega)), by simp⟩
theorem ropen_any (w : World) (a : Option Addr) (n c : Nat) :
    Calls Tryd.prog 27 #[.slice a n c] w fun e w' => e = .returned (RcV a n c 0 0 false) ∧ Below w.heap.size w w' := by
  have hb := (Below.refl w.heap.size w).alloc (Nat.le_refl _) (.cells #[.slice none 0 0, .int .i64 0, .int .i64 0, .bool false] 57)
  have hr : RcB (w.alloc (.cells #[.slice none 0 0, .int .i64 0, .int .i64 0, .bool false] 57)) w.heap.size none 0 0 0 0 false := ⟨heap_alloc_new w _⟩
  have HB := Lib.hid hb
  have HR := Lib.hid hr
  have hsz := hb.size
  clear hb hr
  go_enter Tryd.func27, Tryd.ntmps27
  go_upto_region 1 with fail
  generalize w.alloc (.cells #[.slice none 0 0, .int .i64 0, .int .i64 0, .bool false] 57) = w1 at HB HR hsz ⊢
  obtain ⟨z, hz⟩ : ∃ z, w.heap.size = z := ⟨_, rfl⟩
  rw [hz] at HB HR hsz ⊢
  have HZ := Lib.hid hz
  clear hz
  have r0 := HR.out.c0
  have r1 := HR.out.c1
  have r2 := HR.out.c2
  have r3 := HR.out.c3
  have f0 := blk_frozen HR.out.blk 0
  have f1 := blk_frozen HR.out.blk 1
  have f2 := blk_frozen HR.out.blk 2
  have f3 := blk_frozen HR.out.blk 3
  have hfin := rc_store (a' := a) (n' := n) (c' := c) (pl' := -1) (mv' := 0) (told' := false) HR.out
  have heff := eff_below (B := z) (rc_eff (w := w1) (z := z) (.slice a n c) (.int .i64 (-1)) (.int .i64 ((0 : Nat) : Int)) (.bool false)) (Nat.le_refl _) (hsz)
  have HFIN := Lib.hid hfin
  have HEFF := Lib.hid heff
  clear hfin heff
  go_wp2
  generalize ((((w1.setCell ⟨z, 0, none⟩ (.slice a n c)).setCell ⟨z, 1, none⟩ (.int .i64 (-1))).setCell ⟨z, 2, none⟩ (.int .i64 ((0 : Nat) : Int))).setCell ⟨z, 3, none⟩ (.bool false)) = w9 at HFIN HEFF ⊢
  have z0 := HFIN.out.c0
  have z1 := HFIN.out.c1
  have z2 := HFIN.out.c2
  have z3 := HFIN.out.c3
  try simp only [Exit.inBlock, Exit.then]
  refine bodyPost_ret (by simp [results, Tryd.results27, go_sem, z0, z1, z2, z3]; try rfl) rfl ?_
  exact ⟨by first | rfl | simp [RcV], by first | exact HB.out.trans HEFF.out | (rw [HZ.out]; exact HB.out.trans HEFF.out)⟩
set_option maxRecDepth 100000 in
set_option maxHeartbeats 4000000 in
theorem rto_any (w : World) (a : Option Addr) (n c u q mv : Nat) (told : Bool) (hn : n ≤ 2000000) (hu : u ≤ q) (hq : q ≤ n) (hmv : mv ≤ 1000000000000000) (pl : Int) (hpl : (u : Int) - 1 = pl) :
    Calls Tryd.prog 84 #[.agg #[.slice a n c, .int .i64 pl, .int .i64 (mv : Nat), .bool told], .int .i64 (q : Nat)] w fun e w' => e = .returned (RcV a n c (q + 1) (mv + costU u q n) false) ∧ Below w.heap.size w w' := by
  have HW := Lib.hid (boxR_of w a n c pl mv told)
  have C1 := fun W => cost_any W n u q hn hu hq pl hpl
  have hcl := costU_le hu hq
  obtain ⟨K, hK⟩ : ∃ K, costU u q n = K := ⟨_, rfl⟩
  rw [hK] at C1 hcl ⊢
  obtain ⟨M, hM⟩ : ∃ M : Int, ((mv + K : Nat) : Int) = M := ⟨_, rfl⟩
  have s1 : IntKind.i64.wrap ((mv : Int) + (K : Int)) = M := by rw [IntKind.wrap_i64]; omega
  have HMM := Lib.hid hM
  clear hM
  have HC1 := Lib.hid C1
  clear hu hq hpl hK C1
  go_enter Tryd.func84, Tryd.ntmps84
  go_upto_region 1 with fail
  generalize (w.alloc (.cells #[.slice a n c, .int .i64 pl, .int .i64 (mv : Nat), .bool told] 57)).alloc (.cells #[.slice none 0 0, .int .i64 0, .int .i64 0, .bool false] 57) = w1 at HW ⊢
  obtain ⟨z, hz⟩ : ∃ z, w.heap.size = z := ⟨_, rfl⟩
  rw [hz] at HW ⊢
  obtain ⟨z1, hz1⟩ : ∃ z1, z + 1 = z1 := ⟨_, rfl⟩
  have hres := HW.out.res
  rw [hz1] at hres ⊢
  have HZ1 := Lib.hid hz1
  have HZ := Lib.hid hz
  clear hz hz1
  have hbx := HW.out.box
  have HRES := Lib.hid hres
  have HBX := Lib.hid hbx
  have hsz := HW.out.size
  have HBEL := Lib.hid HW.out.bel
  clear hres hbx HW
  refine wp_region_noPanic ?_
  refine wp_region_held_drew (S := fun W => W.cell? ⟨z, 0, none⟩ = some (.slice a n c) ∧ W.cell? ⟨z, 1, none⟩ = some (.int .i64 pl) ∧ W.cell? ⟨z, 2, none⟩ = some (.int .i64 (mv : Nat))) (by kernel_rfl) ⟨HBX.out.c0, HBX.out.c1, HBX.out.c2⟩ (fun hHeld => ?_)
  refine wpAnyH_take (i := 0) (v := ?_) rfl (by kernel_rfl) (by kernel_rfl) (by kernel_rfl) (fun _ _ _ h => h) (Or.inl ⟨by kernel_rfl, ?_⟩) hHeld ?_
  rotate_left
  · intro w hSw
    obtain ⟨z1, z2, z3⟩ := hSw
    go_simp
    try with_reducible rfl
  refine wpAnyH_take (i := 1) (v := ?_) rfl (by kernel_rfl) (by kernel_rfl) (by kernel_rfl) (fun _ _ _ h => h) (Or.inl ⟨by kernel_rfl, ?_⟩) hHeld ?_
  rotate_left
  · intro w hSw
    obtain ⟨z1, z2, z3⟩ := hSw
    go_simp
    try with_reducible rfl
  refine wpAnyH_take (i := 2) (v := ?_) rfl (by kernel_rfl) (by kernel_rfl) (by kernel_rfl) (fun _ _ _ h => h) (Or.inl ⟨by kernel_rfl, ?_⟩) hHeld ?_
  rotate_left
  · intro w hSw
    obtain ⟨z1, z2, z3⟩ := hSw
    go_simp
    try with_reducible rfl
  refine wpAnyH_take (i := 3) (v := ?_) rfl (by kernel_rfl) (by kernel_rfl) (by kernel_rfl) (fun _ _ _ h => h) (Or.inl ⟨by kernel_rfl, ?_⟩) hHeld ?_
  rotate_left
  · intro w hSw
    obtain ⟨z1, z2, z3⟩ := hSw
    go_simp
    try with_reducible rfl
  refine wpAnyH_take (i := 4) (v := ?_) rfl (by kernel_rfl) (by kernel_rfl) (by kernel_rfl) (fun _ _ _ h => h) (Or.inl ⟨by kernel_rfl, ?_⟩) hHeld ?_
  rotate_left
  · intro w hSw
    obtain ⟨z1, z2, z3⟩ := hSw
    go_simp
    try with_reducible rfl
  refine wpAnyH_take (i := 5) (v := ?_) rfl (by kernel_rfl) (by kernel_rfl) (by kernel_rfl) (fun _ _ _ h => h) (Or.inl ⟨by kernel_rfl, ?_⟩) hHeld ?_
  rotate_left
  · intro w hSw
    obtain ⟨z1, z2, z3⟩ := hSw
    go_simp
    try with_reducible rfl
  refine wpAnyH_take (i := 6) (v := ?_) rfl (by kernel_rfl) (by kernel_rfl) (by kernel_rfl) (fun _ _ _ h => h) (Or.inl ⟨by kernel_rfl, ?_⟩) hHeld ?_
  rotate_left
  · intro w hSw
    obtain ⟨z1, z2, z3⟩ := hSw
    go_simp
    try with_reducible rfl
  refine wpAnyH_take (i := 7) (v := ?_) rfl (by kernel_rfl) (by kernel_rfl) (by kernel_rfl) (fun _ _ _ h => h) (Or.inl ⟨by kernel_rfl, ?_⟩) hHeld ?_
  rotate_left
  · intro w hSw
    obtain ⟨z1, z2, z3⟩ := hSw
    go_simp
    try with_reducible rfl
  refine wpAnyH_take (i := 8) (v := ?_) rfl (by kernel_rfl) (by kernel_rfl) (by kernel_rfl) (fun _ _ _ h => h) (Or.inl ⟨by kernel_rfl, ?_⟩) hHeld ?_
  rotate_left
  · intro w hSw
    obtain ⟨z1, z2, z3⟩ := hSw
    go_simp
    try with_reducible rfl
  refine wpAnyH_take (i := 9) (v := ?_) rfl (by kernel_rfl) (by kernel_rfl) (by kernel_rfl) (fun _ _ _ h => h) (Or.inl ⟨by kernel_rfl, ?_⟩) hHeld ?_
  rotate_left
  · intro w hSw
    obtain ⟨z1, z2, z3⟩ := hSw
    go_simp
    try with_reducible rfl
  refine wpAnyH_take (i := 10) (v := ?_) rfl (by kernel_rfl) (by kernel_rfl) (by kernel_rfl) (fun _ _ _ h => h) (Or.inl ⟨by kernel_rfl, ?_⟩) hHeld ?_
  rotate_left
  · intro w hSw
    obtain ⟨z1, z2, z3⟩ := hSw
    go_simp
    try with_reducible rfl
  obtain ⟨X0, hX0⟩ : ∃ X0, X0 = w1.drew := ⟨_, rfl⟩
  rw [← hX0]
  have hbX : Below z w X0 := by rw [hX0]; exact HBEL.out.drew
  have hrX : RcB X0 z1 none 0 0 0 0 false := by rw [hX0]; exact ⟨HRES.out.blk⟩
  have hsX : X0.cell? ⟨z, 0, none⟩ = some (.slice a n c) ∧ X0.cell? ⟨z, 1, none⟩ = some (.int .i64 pl) ∧ X0.cell? ⟨z, 2, none⟩ = some (.int .i64 (mv : Nat)) := by rw [hX0]; exact ⟨HBX.out.c0, HBX.out.c1, HBX.out.c2⟩
  have hzX : z + 2 = X0.heap.size := by rw [hX0]; exact hsz.symm
  clear hX0 hsz HBEL HBX HRES hHeld
  refine wpAnyH_ready (rs := [11]) (by kernel_rfl) (by simp) ?_
  refine AllReadyH.cons rfl (fun KK hKK => ?_) ?_
  · rw [if_pos (by kernel_rfl)]
    go_simp
    go_wp2_with (go_at_call 111; (with_reducible refine (HC1.out _).mono ?_); rintro e w2 ⟨rfl, rfl⟩)
    refine hKK.out _ _ hsX (fun hHeld => ?_)
    clear hKK KK
    refine wpAnyH_take (i := 12) (v := ?_) rfl (by kernel_rfl) (by kernel_rfl) (by kernel_rfl) (fun _ _ _ h => h) (Or.inl ⟨by kernel_rfl, ?_⟩) hHeld ?_
    rotate_left
    · intro w hSw
      obtain ⟨z1, z2, z3⟩ := hSw
      go_simp
      try with_reducible rfl
    refine wpAnyH_take (i := 13) (v := ?_) rfl (by kernel_rfl) (by kernel_rfl) (by kernel_rfl) (fun _ _ _ h => h) (Or.inl ⟨by kernel_rfl, ?_⟩) hHeld ?_
    rotate_left
    · intro w hSw
      obtain ⟨z1, z2, z3⟩ := hSw
      go_simp
      try with_reducible rfl
    refine wpAnyH_ready (rs := [14]) (by kernel_rfl) (by simp) ?_
    refine AllReadyH.cons rfl (fun KK hKK => ?_) ?_
    · rw [if_pos (by kernel_rfl)]
      have r0 := hrX.c0
      have r1 := hrX.c1
      have r2 := hrX.c2
      have r3 := hrX.c3
      have f0 := blk_frozen hrX.blk 0
      have f1 := blk_frozen hrX.blk 1
      have f2 := blk_frozen hrX.blk 2
      have f3 := blk_frozen hrX.blk 3
      have hfin : RcB ((((X0.setCell ⟨z1, 0, none⟩ (.slice a n c)).setCell ⟨z1, 1, none⟩ (.int .i64 (q : Int))).setCell ⟨z1, 2, none⟩ (.int .i64 M)).setCell ⟨z1, 3, none⟩ (.bool false)) z1 a n c (q : Int) (mv + K) false := by
        rw [← HMM.out]; exact rc_store hrX
      have heff := rc_eff (w := X0) (z := z1) (.slice a n c) (.int .i64 (q : Int)) (.int .i64 M) (.bool false)
      have hz1 := HZ1.out
      have hsN := And.intro (heff.cell (p := ⟨z, 0, none⟩) (by show ¬ z = z1; omega) hsX.1) (And.intro (heff.cell (p := ⟨z, 1, none⟩) (by show ¬ z = z1; omega) hsX.2.1) (heff.cell (p := ⟨z, 2, none⟩) (by show ¬ z = z1; omega) hsX.2.2))
      have hbN := hbX.trans (eff_below (B := z) heff (by omega) (by omega))
      clear heff hz1
      go_simp
      generalize ((((X0.setCell ⟨z1, 0, none⟩ (.slice a n c)).setCell ⟨z1, 1, none⟩ (.int .i64 (q : Int))).setCell ⟨z1, 2, none⟩ (.int .i64 M)).setCell ⟨z1, 3, none⟩ (.bool false)) = w9 at hfin hsN hbN ⊢
      refine hKK.out _ _ hsN (fun hHeld => ?_)
      clear hKK KK r0 r1 r2 r3 f0 f1 f2 f3 hHeld hsN hrX hbX hsX
      refine wpAnyH_done (by kernel_rfl) ?_ _
      refine NoPanic.normal ?_
      have z0 := hfin.c0
      have z1' := hfin.c1
      have z2 := hfin.c2
      have z3 := hfin.c3
      go_wp2
      try simp only [Exit.inBlock, Exit.then]
      refine bodyPost_ret (by simp [results, Tryd.results84, go_sem, z0, z1', z2, z3]; try rfl) rfl ?_
      exact ⟨by first | rfl | simp [RcV], by first | exact hbN | (rw [HZ.out]; exact hbN)⟩
    exact AllReadyH.nil
  exact AllReadyH.nil
end Go.Proofs.YtaijepjhmjjecaaDoor
