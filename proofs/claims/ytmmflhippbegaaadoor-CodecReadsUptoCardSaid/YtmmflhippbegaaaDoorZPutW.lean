/- put: a call over a Writer, and what the document puts: the arms of numbers and texts (printed by wip/gen_putw.py). -/
import Derived.Test.YtmmflhippbegaaaDoorZG2
import Derived.Test.YtmmflhippbegaaaDoorZPut
namespace Go.Proofs.YtmmflhippbegaaaDoor
set_option linter.unusedVariables false
open Go.ChangeShapes Go.WideShapes Go.ChangeAt Go.RowKit

/-- What a call of put answers and leaves: nb is put. -/
def PutW (w : World) (base p : Nat) (v : Value) (bs nb : List UInt8) (e : Ending) (w' : World) : Prop :=
  ∃ va v', e = .returned (.tuple #[va, .bool true]) ∧ Own w' w.heap.size 5 va (bytesV nb) ∧ Wr w' base p v' (bs ++ nb) ∧ Wrote w w' p v v'
theorem Wrote.over {F : Nat → Prop} {a b c : World} {p : Nat} {v v' : Value} (h : Wrote a b p v v') (e : Eff F b c) (hF : ∀ k, F k → a.heap.size ≤ k) : Wrote a c p v v' :=
  ⟨h.eff.trans e (fun i hi hlt => by have := hF i hi; omega), h.fresh⟩
theorem cells8_new (w : World) (c0 c1 c2 c3 c4 c5 c6 c7 : Value) : Cells8 (w.alloc (.cells #[c0, c1, c2, c3, c4, c5, c6, c7] 46)) w.heap.size c0 c1 c2 c3 c4 c5 c6 c7 := Cells8.of (heap_alloc_new w _)
theorem Cells8.effw {F : Nat → Prop} {w w' : World} {B : Nat} {c0 c1 c2 c3 c4 c5 c6 c7 : Value} (h : Cells8 w B c0 c1 c2 c3 c4 c5 c6 c7) (e : Eff F w w') (hF : ¬ F B) : Cells8 w' B c0 c1 c2 c3 c4 c5 c6 c7 :=
  ⟨e.cell hF h.c0, e.cell hF h.c1, e.cell hF h.c2, e.cell hF h.c3, e.cell hF h.c4, e.cell hF h.c5, e.cell hF h.c6, e.cell hF h.c7⟩
theorem Wr.notNew {w : World} {base p : Nat} {v : Value} {bs : List UInt8} (h : Wr w base p v bs) : ¬ WrB p v w.heap.size := fun hk => by have := (h.ge _ hk).2; omega

set_option maxRecDepth 100000 in
theorem pw_uv (w : World) (base p : Nat) (v : Value) (bs : List UInt8) (h : Wr w base p v bs) (hb : base ≤ w.heap.size) (hl : bs.length ≤ 1000000000) (sec b s l : Value) (n u i : Int) (m : Nat) (hm : (m : Int) ≤ 18446744073709551615) :
    Calls Tryd.prog 20 #[.pointer (some ⟨p, 0, none⟩), .agg #[.int .i64 2, sec, .int .i64 n, .int .u64 m, .int .i64 i, b, s, l]] w (PutW w base p v bs (uvar m)) := by
  have hx0 := cells8_new w (.int .i64 2) sec (.int .i64 n) (.int .u64 m) (.int .i64 i) b s l
  obtain ⟨o, ho⟩ : ∃ o, o = Obj.cells #[.int .i64 2, sec, .int .i64 n, .int .u64 m, .int .i64 i, b, s, l] 46 := ⟨_, rfl⟩
  obtain ⟨h0, hw0⟩ := h.box o
  have hb0 : base ≤ (w.alloc o).heap.size := by simp; omega
  have C1 := wuv_any _ base p v bs h0 hb0 (by omega) m hm
  have HW0 := Lib.hid hw0
  have HN := Lib.hid h.notNew
  rw [ho] at C1
  have HO := Lib.hid ho
  rw [← ho] at hx0
  have HX := Lib.hid hx0
  clear h0 hw0 ho h hx0
  go_enter Tryd.func20, Tryd.ntmps20
  go_wp2_with fail
  refine C1.mono ?_
  rintro e w1 ⟨rfl, v1, hw1, hwr1⟩
  rw [← HO.out] at hwr1
  have hall := HW0.out.trans hwr1
  have hx := HX.out.effw hwr1.eff HN.out
  obtain ⟨d0, d1, d2, d3, d4, d5, d6, d7⟩ := hx
  have hz : w.heap.size ≤ w1.heap.size := hall.eff.size
  have C2 := ruvar_any m w1 hm
  have HW1 := Lib.hid hw1
  have HALL := Lib.hid hall
  clear C1 hwr1 hw1 hall
  go_wp2_with fail
  refine C2.mono ?_
  rintro e w2 ⟨va, rfl, ho2, hb2⟩
  have hw2 := HW1.out.of_below hb2
  have hall2 := HALL.out.tail hb2
  clear C2
  go_wp2
  go_ret2
  exact ⟨va, v1, rfl, own_base ho2 hz, hw2, hall2⟩

set_option maxRecDepth 100000 in
theorem pw_var (w : World) (base p : Nat) (v : Value) (bs : List UInt8) (h : Wr w base p v bs) (hb : base ≤ w.heap.size) (hl : bs.length ≤ 1000000000) (sec b s l : Value) (n u i : Int) (hi0 : -9223372036854775808 ≤ i) (hi1 : i ≤ 9223372036854775807) :
    Calls Tryd.prog 20 #[.pointer (some ⟨p, 0, none⟩), .agg #[.int .i64 3, sec, .int .i64 n, .int .u64 u, .int .i64 i, b, s, l]] w (PutW w base p v bs (uvar (zigI i).toNat)) := by
  have hx0 := cells8_new w (.int .i64 3) sec (.int .i64 n) (.int .u64 u) (.int .i64 i) b s l
  obtain ⟨o, ho⟩ : ∃ o, o = Obj.cells #[.int .i64 3, sec, .int .i64 n, .int .u64 u, .int .i64 i, b, s, l] 46 := ⟨_, rfl⟩
  obtain ⟨h0, hw0⟩ := h.box o
  have hb0 : base ≤ (w.alloc o).heap.size := by simp; omega
  have C1 := wvar_any _ base p v bs h0 hb0 (by omega) i hi0 hi1
  have HW0 := Lib.hid hw0
  have HN := Lib.hid h.notNew
  rw [ho] at C1
  have HO := Lib.hid ho
  rw [← ho] at hx0
  have HX := Lib.hid hx0
  clear h0 hw0 ho h hx0
  go_enter Tryd.func20, Tryd.ntmps20
  go_wp2_with fail
  refine C1.mono ?_
  rintro e w1 ⟨rfl, v1, hw1, hwr1⟩
  rw [← HO.out] at hwr1
  have hall := HW0.out.trans hwr1
  have hx := HX.out.effw hwr1.eff HN.out
  obtain ⟨d0, d1, d2, d3, d4, d5, d6, d7⟩ := hx
  have hz : w.heap.size ≤ w1.heap.size := hall.eff.size
  have C2 := rvar_any i w1 hi0 hi1
  have HW1 := Lib.hid hw1
  have HALL := Lib.hid hall
  clear C1 hwr1 hw1 hall
  go_wp2_with fail
  refine C2.mono ?_
  rintro e w2 ⟨va, rfl, ho2, hb2⟩
  have hw2 := HW1.out.of_below hb2
  have hall2 := HALL.out.tail hb2
  clear C2
  go_wp2
  go_ret2
  exact ⟨va, v1, rfl, own_base ho2 hz, hw2, hall2⟩

set_option maxRecDepth 100000 in
theorem pw_w64 (w : World) (base p : Nat) (v : Value) (bs : List UInt8) (h : Wr w base p v bs) (hb : base ≤ w.heap.size) (hl : bs.length ≤ 1000000000) (sec b s l : Value) (n u i : Int) (m : Nat) (hm : (m : Int) ≤ 18446744073709551615) :
    Calls Tryd.prog 20 #[.pointer (some ⟨p, 0, none⟩), .agg #[.int .i64 5, sec, .int .i64 n, .int .u64 m, .int .i64 i, b, s, l]] w (PutW w base p v bs (leB 8 m)) := by
  have hx0 := cells8_new w (.int .i64 5) sec (.int .i64 n) (.int .u64 m) (.int .i64 i) b s l
  obtain ⟨o, ho⟩ : ∃ o, o = Obj.cells #[.int .i64 5, sec, .int .i64 n, .int .u64 m, .int .i64 i, b, s, l] 46 := ⟨_, rfl⟩
  obtain ⟨h0, hw0⟩ := h.box o
  have hb0 : base ≤ (w.alloc o).heap.size := by simp; omega
  have C1 := w64_any _ base p v bs h0 hb0 (by omega) m hm
  have HW0 := Lib.hid hw0
  have HN := Lib.hid h.notNew
  rw [ho] at C1
  have HO := Lib.hid ho
  rw [← ho] at hx0
  have HX := Lib.hid hx0
  clear h0 hw0 ho h hx0
  go_enter Tryd.func20, Tryd.ntmps20
  go_wp2_with fail
  refine C1.mono ?_
  rintro e w1 ⟨rfl, v1, hw1, hwr1⟩
  rw [← HO.out] at hwr1
  have hall := HW0.out.trans hwr1
  have hx := HX.out.effw hwr1.eff HN.out
  obtain ⟨d0, d1, d2, d3, d4, d5, d6, d7⟩ := hx
  have hz : w.heap.size ≤ w1.heap.size := hall.eff.size
  have C2 := rword_any w1 m 8 hm (by decide)
  have HW1 := Lib.hid hw1
  have HALL := Lib.hid hall
  clear C1 hwr1 hw1 hall
  go_wp2_with fail
  refine C2.mono ?_
  rintro e w2 ⟨va, rfl, ho2, hb2⟩
  have hw2 := HW1.out.of_below hb2
  have hall2 := HALL.out.tail hb2
  clear C2
  go_wp2
  go_ret2
  exact ⟨va, v1, rfl, own_base ho2 hz, hw2, hall2⟩

set_option maxRecDepth 100000 in
theorem pw_w32 (w : World) (base p : Nat) (v : Value) (bs : List UInt8) (h : Wr w base p v bs) (hb : base ≤ w.heap.size) (hl : bs.length ≤ 1000000000) (sec b s l : Value) (n u i : Int) (m : Nat) (hm : (m : Int) ≤ 18446744073709551615) :
    Calls Tryd.prog 20 #[.pointer (some ⟨p, 0, none⟩), .agg #[.int .i64 4, sec, .int .i64 n, .int .u64 m, .int .i64 i, b, s, l]] w (PutW w base p v bs (leB 4 m)) := by
  have hx0 := cells8_new w (.int .i64 4) sec (.int .i64 n) (.int .u64 m) (.int .i64 i) b s l
  obtain ⟨o, ho⟩ : ∃ o, o = Obj.cells #[.int .i64 4, sec, .int .i64 n, .int .u64 m, .int .i64 i, b, s, l] 46 := ⟨_, rfl⟩
  obtain ⟨h0, hw0⟩ := h.box o
  have hb0 : base ≤ (w.alloc o).heap.size := by simp; omega
  have C1 := w32_any _ base p v bs h0 hb0 (by omega) (m % 4294967296) (by omega)
  have HW0 := Lib.hid hw0
  have HN := Lib.hid h.notNew
  rw [ho] at C1
  simp only [Int.natCast_emod] at C1
  have HO := Lib.hid ho
  rw [← ho] at hx0
  have HX := Lib.hid hx0
  clear h0 hw0 ho h hx0
  go_enter Tryd.func20, Tryd.ntmps20
  go_wp2_with fail
  refine C1.mono ?_
  rintro e w1 ⟨rfl, v1, hw1, hwr1⟩
  rw [← HO.out] at hwr1
  have hall := HW0.out.trans hwr1
  have hx := HX.out.effw hwr1.eff HN.out
  obtain ⟨d0, d1, d2, d3, d4, d5, d6, d7⟩ := hx
  have hz : w.heap.size ≤ w1.heap.size := hall.eff.size
  rw [show (4294967296 : Nat) = 256 ^ 4 by rfl, leB_mod] at hw1
  have C2 := rword_any w1 m 4 hm (by decide)
  have HW1 := Lib.hid hw1
  have HALL := Lib.hid hall
  clear C1 hwr1 hw1 hall
  go_wp2_with fail
  refine C2.mono ?_
  rintro e w2 ⟨va, rfl, ho2, hb2⟩
  have hw2 := HW1.out.of_below hb2
  have hall2 := HALL.out.tail hb2
  clear C2
  go_wp2
  go_ret2
  exact ⟨va, v1, rfl, own_base ho2 hz, hw2, hall2⟩

set_option maxRecDepth 100000 in
theorem pw_text (w : World) (base p : Nat) (v : Value) (bs : List UInt8) (h : Wr w base p v bs) (hb : base ≤ w.heap.size) (hl : bs.length ≤ 1000000000) (sec b s l : Value) (n u i : Int) (sb : ByteArray) (hsb : sb.size ≤ 10000000000) :
    Calls Tryd.prog 20 #[.pointer (some ⟨p, 0, none⟩), .agg #[.int .i64 7, sec, .int .i64 n, .int .u64 u, .int .i64 i, b, .string sb, l]] w (PutW w base p v bs (uvar sb.size ++ sb.data.toList)) := by
  have hx0 := cells8_new w (.int .i64 7) sec (.int .i64 n) (.int .u64 u) (.int .i64 i) b (.string sb) l
  obtain ⟨o, ho⟩ : ∃ o, o = Obj.cells #[.int .i64 7, sec, .int .i64 n, .int .u64 u, .int .i64 i, b, .string sb, l] 46 := ⟨_, rfl⟩
  obtain ⟨h0, hw0⟩ := h.box o
  have hb0 : base ≤ (w.alloc o).heap.size := by simp; omega
  have C1 := wtext_any _ base p v bs h0 hb0 (by omega) sb hsb
  have HW0 := Lib.hid hw0
  have HN := Lib.hid h.notNew
  rw [ho] at C1
  have HO := Lib.hid ho
  rw [← ho] at hx0
  have HX := Lib.hid hx0
  clear h0 hw0 ho h hx0
  go_enter Tryd.func20, Tryd.ntmps20
  go_wp2_with fail
  refine C1.mono ?_
  rintro e w1 ⟨rfl, v1, hw1, hwr1⟩
  rw [← HO.out] at hwr1
  have hall := HW0.out.trans hwr1
  have hx := HX.out.effw hwr1.eff HN.out
  obtain ⟨d0, d1, d2, d3, d4, d5, d6, d7⟩ := hx
  have hz : w.heap.size ≤ w1.heap.size := hall.eff.size
  have C2 := rtxt_any w1 sb hsb
  have HW1 := Lib.hid hw1
  have HALL := Lib.hid hall
  clear C1 hwr1 hw1 hall
  go_wp2_with fail
  refine C2.mono ?_
  rintro e w2 ⟨va, rfl, ho2, hb2⟩
  have hw2 := HW1.out.of_below hb2
  have hall2 := HALL.out.tail hb2
  clear C2
  go_wp2
  go_ret2
  exact ⟨va, v1, rfl, own_base ho2 hz, hw2, hall2⟩

set_option maxRecDepth 100000 in
theorem pw_byte (w : World) (base p : Nat) (v : Value) (bs : List UInt8) (h : Wr w base p v bs) (hb : base ≤ w.heap.size) (hl : bs.length ≤ 1000000000) (sec b s l : Value) (n u i : Int) :
    Calls Tryd.prog 20 #[.pointer (some ⟨p, 0, none⟩), .agg #[.int .i64 1, sec, .int .i64 n, .int .u64 u, .int .i64 i, b, s, l]] w (PutW w base p v bs ([UInt8.ofNat (n % 256).toNat])) := by
  have hx0 := cells8_new w (.int .i64 1) sec (.int .i64 n) (.int .u64 u) (.int .i64 i) b s l
  obtain ⟨o, ho⟩ : ∃ o, o = Obj.cells #[.int .i64 1, sec, .int .i64 n, .int .u64 u, .int .i64 i, b, s, l] 46 := ⟨_, rfl⟩
  obtain ⟨h0, hw0⟩ := h.box o
  have hb0 : base ≤ (w.alloc o).heap.size := by simp; omega
  have hx : ((UInt8.ofNat (n % 256).toNat).toNat : Int) = n % 256 := by simp; omega
  have C1 := wbyte_any _ base p v bs h0 hb0 (by omega) (UInt8.ofNat (n % 256).toNat)
  have HW0 := Lib.hid hw0
  have HN := Lib.hid h.notNew
  rw [ho] at C1
  rw [hx] at C1
  have HO := Lib.hid ho
  rw [← ho] at hx0
  have HX := Lib.hid hx0
  clear h0 hw0 ho h hx0 hx
  go_enter Tryd.func20, Tryd.ntmps20
  go_wp2_with fail
  refine C1.mono ?_
  rintro e w1 ⟨rfl, v1, hw1, hwr1⟩
  rw [← HO.out] at hwr1
  have hall := HW0.out.trans hwr1
  have hx := HX.out.effw hwr1.eff HN.out
  obtain ⟨d0, d1, d2, d3, d4, d5, d6, d7⟩ := hx
  have hz : w.heap.size ≤ w1.heap.size := hall.eff.size
  have HW1 := Lib.hid hw1
  have HALL := Lib.hid hall
  clear C1 hwr1 hw1 hall
  go_wp2
  go_ret2
  exact ⟨_, v1, rfl, own_to (own_one w1 w.heap.size 5 _ hz) (by unfold bytesV; simp; omega), (HW1.out.box _).1, HALL.out.trans (HW1.out.box _).2⟩

end Go.Proofs.YtmmflhippbegaaaDoor
