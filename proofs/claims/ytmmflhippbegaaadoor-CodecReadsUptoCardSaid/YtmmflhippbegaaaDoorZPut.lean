/- write: the arms that always put (printed by wip/gen_put.py). -/
import Derived.Test.YtmmflhippbegaaaDoorZWAll
import Derived.Test.YtmmflhippbegaaaDoorZWPack
namespace Go.Proofs.YtmmflhippbegaaaDoor
set_option linter.unusedVariables false
open Go.ChangeShapes Go.WideShapes Go.ChangeAt Go.RowKit

/-- What a call of write answers and leaves, where the value is taken. -/
def PutPost (w : World) (base p : Nat) (v : Value) (bs : List UInt8) (e : Ending) (w' : World) : Prop :=
  e = .returned (.tuple #[.bool true, .bool true]) ∧ ∃ v', Wr w' base p v' bs ∧ Wrote w w' p v v'
theorem Wr.box {w : World} {base p : Nat} {v : Value} {bs : List UInt8} (h : Wr w base p v bs) (o : Obj) : Wr (w.alloc o) base p v bs ∧ Wrote w (w.alloc o) p v v :=
  ⟨h.eff (F := fun _ => False) ((Eff.refl _ _).alloc _) (fun _ _ f => f), ⟨(Eff.refl _ _).alloc _, Fresh.refl _ _⟩⟩

set_option maxRecDepth 100000 in
theorem put_uv (w : World) (base p : Nat) (v : Value) (bs : List UInt8) (h : Wr w base p v bs) (hb : base ≤ w.heap.size) (hl : bs.length ≤ 1000000000) (sec b s l : Value) (n u i : Int) (m : Nat) (hm : (m : Int) ≤ 18446744073709551615) :
    Calls Tryd.prog 44 #[.pointer (some ⟨p, 0, none⟩), .agg #[.int .i64 2, sec, .int .i64 n, .int .u64 m, .int .i64 i, b, s, l]] w (PutPost w base p v (bs ++ uvar m)) := by
  obtain ⟨o, ho⟩ : ∃ o, o = Obj.cells #[.int .i64 2, sec, .int .i64 n, .int .u64 m, .int .i64 i, b, s, l] 46 := ⟨_, rfl⟩
  obtain ⟨h0, hw0⟩ := h.box o
  have hb0 : base ≤ (w.alloc o).heap.size := by simp; omega
  have C1 := wuv_any _ base p v bs h0 hb0 (by omega) m hm
  have HW0 := Lib.hid hw0
  rw [ho] at C1
  have HO := Lib.hid ho
  clear h0 hw0 ho h
  go_enter Tryd.func44, Tryd.ntmps44
  go_wp2_with fail
  refine C1.mono ?_
  rintro e w1 ⟨rfl, v1, hw1, hwr1⟩
  rw [← HO.out] at hwr1
  have hall := HW0.out.trans hwr1
  go_wp2
  go_ret2
  exact ⟨rfl, v1, hw1, hall⟩

set_option maxRecDepth 100000 in
theorem put_upto (w : World) (base p : Nat) (v : Value) (bs : List UInt8) (h : Wr w base p v bs) (hb : base ≤ w.heap.size) (hl : bs.length ≤ 1000000000) (sec b s l : Value) (n u i : Int) (m : Nat) (hm : (m : Int) ≤ 18446744073709551615) :
    Calls Tryd.prog 44 #[.pointer (some ⟨p, 0, none⟩), .agg #[.int .i64 10, sec, .int .i64 n, .int .u64 m, .int .i64 i, b, s, l]] w (PutPost w base p v (bs ++ uvar m)) := by
  obtain ⟨o, ho⟩ : ∃ o, o = Obj.cells #[.int .i64 10, sec, .int .i64 n, .int .u64 m, .int .i64 i, b, s, l] 46 := ⟨_, rfl⟩
  obtain ⟨h0, hw0⟩ := h.box o
  have hb0 : base ≤ (w.alloc o).heap.size := by simp; omega
  have C1 := wuv_any _ base p v bs h0 hb0 (by omega) m hm
  have HW0 := Lib.hid hw0
  rw [ho] at C1
  have HO := Lib.hid ho
  clear h0 hw0 ho h
  go_enter Tryd.func44, Tryd.ntmps44
  go_wp2_with fail
  refine C1.mono ?_
  rintro e w1 ⟨rfl, v1, hw1, hwr1⟩
  rw [← HO.out] at hwr1
  have hall := HW0.out.trans hwr1
  go_wp2
  go_ret2
  exact ⟨rfl, v1, hw1, hall⟩

set_option maxRecDepth 100000 in
theorem put_var (w : World) (base p : Nat) (v : Value) (bs : List UInt8) (h : Wr w base p v bs) (hb : base ≤ w.heap.size) (hl : bs.length ≤ 1000000000) (sec b s l : Value) (n u i : Int) (hi0 : -9223372036854775808 ≤ i) (hi1 : i ≤ 9223372036854775807) :
    Calls Tryd.prog 44 #[.pointer (some ⟨p, 0, none⟩), .agg #[.int .i64 3, sec, .int .i64 n, .int .u64 u, .int .i64 i, b, s, l]] w (PutPost w base p v (bs ++ uvar (zigI i).toNat)) := by
  obtain ⟨o, ho⟩ : ∃ o, o = Obj.cells #[.int .i64 3, sec, .int .i64 n, .int .u64 u, .int .i64 i, b, s, l] 46 := ⟨_, rfl⟩
  obtain ⟨h0, hw0⟩ := h.box o
  have hb0 : base ≤ (w.alloc o).heap.size := by simp; omega
  have C1 := wvar_any _ base p v bs h0 hb0 (by omega) i hi0 hi1
  have HW0 := Lib.hid hw0
  rw [ho] at C1
  have HO := Lib.hid ho
  clear h0 hw0 ho h
  go_enter Tryd.func44, Tryd.ntmps44
  go_wp2_with fail
  refine C1.mono ?_
  rintro e w1 ⟨rfl, v1, hw1, hwr1⟩
  rw [← HO.out] at hwr1
  have hall := HW0.out.trans hwr1
  go_wp2
  go_ret2
  exact ⟨rfl, v1, hw1, hall⟩

set_option maxRecDepth 100000 in
theorem put_w64 (w : World) (base p : Nat) (v : Value) (bs : List UInt8) (h : Wr w base p v bs) (hb : base ≤ w.heap.size) (hl : bs.length ≤ 1000000000) (sec b s l : Value) (n u i : Int) (m : Nat) (hm : (m : Int) ≤ 18446744073709551615) :
    Calls Tryd.prog 44 #[.pointer (some ⟨p, 0, none⟩), .agg #[.int .i64 5, sec, .int .i64 n, .int .u64 m, .int .i64 i, b, s, l]] w (PutPost w base p v (bs ++ leB 8 m)) := by
  obtain ⟨o, ho⟩ : ∃ o, o = Obj.cells #[.int .i64 5, sec, .int .i64 n, .int .u64 m, .int .i64 i, b, s, l] 46 := ⟨_, rfl⟩
  obtain ⟨h0, hw0⟩ := h.box o
  have hb0 : base ≤ (w.alloc o).heap.size := by simp; omega
  have C1 := w64_any _ base p v bs h0 hb0 (by omega) m hm
  have HW0 := Lib.hid hw0
  rw [ho] at C1
  have HO := Lib.hid ho
  clear h0 hw0 ho h
  go_enter Tryd.func44, Tryd.ntmps44
  go_wp2_with fail
  refine C1.mono ?_
  rintro e w1 ⟨rfl, v1, hw1, hwr1⟩
  rw [← HO.out] at hwr1
  have hall := HW0.out.trans hwr1
  go_wp2
  go_ret2
  exact ⟨rfl, v1, hw1, hall⟩

set_option maxRecDepth 100000 in
theorem put_raw (w : World) (base p : Nat) (v : Value) (bs : List UInt8) (h : Wr w base p v bs) (hb : base ≤ w.heap.size) (hl : bs.length ≤ 1000000000) (sec b s l : Value) (n u i : Int) (a : Option Addr) (k c : Nat) (cs : List UInt8) (hrd : Rd w (.slice a k c) (bytesV cs)) (hcs : cs.length ≤ 10000000000) :
    Calls Tryd.prog 44 #[.pointer (some ⟨p, 0, none⟩), .agg #[.int .i64 6, sec, .int .i64 n, .int .u64 u, .int .i64 i, .slice a k c, s, l]] w (PutPost w base p v (bs ++ cs)) := by
  obtain ⟨o, ho⟩ : ∃ o, o = Obj.cells #[.int .i64 6, sec, .int .i64 n, .int .u64 u, .int .i64 i, .slice a k c, s, l] 46 := ⟨_, rfl⟩
  obtain ⟨h0, hw0⟩ := h.box o
  have hb0 : base ≤ (w.alloc o).heap.size := by simp; omega
  have hrd0 := hrd.below ((Below.refl w.heap.size w).alloc (Nat.le_refl _) o) (Nat.le_refl _)
  have C1 := wraw_any _ base p v bs h0 hb0 (by omega) _ cs hrd0 hcs
  have HW0 := Lib.hid hw0
  rw [ho] at C1
  have HO := Lib.hid ho
  clear h0 hw0 ho h
  go_enter Tryd.func44, Tryd.ntmps44
  go_wp2_with fail
  refine C1.mono ?_
  rintro e w1 ⟨rfl, v1, hw1, hwr1⟩
  rw [← HO.out] at hwr1
  have hall := HW0.out.trans hwr1
  go_wp2
  go_ret2
  exact ⟨rfl, v1, hw1, hall⟩

set_option maxRecDepth 100000 in
theorem put_text (w : World) (base p : Nat) (v : Value) (bs : List UInt8) (h : Wr w base p v bs) (hb : base ≤ w.heap.size) (hl : bs.length ≤ 1000000000) (sec b s l : Value) (n u i : Int) (sb : ByteArray) (hsb : sb.size ≤ 10000000000) :
    Calls Tryd.prog 44 #[.pointer (some ⟨p, 0, none⟩), .agg #[.int .i64 7, sec, .int .i64 n, .int .u64 u, .int .i64 i, b, .string sb, l]] w (PutPost w base p v (bs ++ (uvar sb.size ++ sb.data.toList))) := by
  obtain ⟨o, ho⟩ : ∃ o, o = Obj.cells #[.int .i64 7, sec, .int .i64 n, .int .u64 u, .int .i64 i, b, .string sb, l] 46 := ⟨_, rfl⟩
  obtain ⟨h0, hw0⟩ := h.box o
  have hb0 : base ≤ (w.alloc o).heap.size := by simp; omega
  have C1 := wtext_any _ base p v bs h0 hb0 (by omega) sb hsb
  have HW0 := Lib.hid hw0
  rw [ho] at C1
  have HO := Lib.hid ho
  clear h0 hw0 ho h
  go_enter Tryd.func44, Tryd.ntmps44
  go_wp2_with fail
  refine C1.mono ?_
  rintro e w1 ⟨rfl, v1, hw1, hwr1⟩
  rw [← HO.out] at hwr1
  have hall := HW0.out.trans hwr1
  go_wp2
  go_ret2
  exact ⟨rfl, v1, hw1, hall⟩

set_option maxRecDepth 100000 in
theorem put_byte (w : World) (base p : Nat) (v : Value) (bs : List UInt8) (h : Wr w base p v bs) (hb : base ≤ w.heap.size) (hl : bs.length ≤ 1000000000) (sec b s l : Value) (n u i : Int) :
    Calls Tryd.prog 44 #[.pointer (some ⟨p, 0, none⟩), .agg #[.int .i64 1, sec, .int .i64 n, .int .u64 u, .int .i64 i, b, s, l]] w (PutPost w base p v (bs ++ [UInt8.ofNat (n % 256).toNat])) := by
  obtain ⟨o, ho⟩ : ∃ o, o = Obj.cells #[.int .i64 1, sec, .int .i64 n, .int .u64 u, .int .i64 i, b, s, l] 46 := ⟨_, rfl⟩
  obtain ⟨h0, hw0⟩ := h.box o
  have hb0 : base ≤ (w.alloc o).heap.size := by simp; omega
  have hx : ((UInt8.ofNat (n % 256).toNat).toNat : Int) = n % 256 := by simp; omega
  have C1 := wbyte_any _ base p v bs h0 hb0 (by omega) (UInt8.ofNat (n % 256).toNat)
  rw [hx] at C1
  have HW0 := Lib.hid hw0
  rw [ho] at C1
  have HO := Lib.hid ho
  clear h0 hw0 ho h hx
  go_enter Tryd.func44, Tryd.ntmps44
  go_wp2_with fail
  refine C1.mono ?_
  rintro e w1 ⟨rfl, v1, hw1, hwr1⟩
  rw [← HO.out] at hwr1
  have hall := HW0.out.trans hwr1
  go_wp2
  go_ret2
  exact ⟨rfl, v1, hw1, hall⟩

set_option maxRecDepth 100000 in
theorem put_w32 (w : World) (base p : Nat) (v : Value) (bs : List UInt8) (h : Wr w base p v bs) (hb : base ≤ w.heap.size) (hl : bs.length ≤ 1000000000) (sec b s l : Value) (n u i : Int) (m : Nat) (hm : (m : Int) ≤ 18446744073709551615) :
    Calls Tryd.prog 44 #[.pointer (some ⟨p, 0, none⟩), .agg #[.int .i64 4, sec, .int .i64 n, .int .u64 m, .int .i64 i, b, s, l]] w (PutPost w base p v (bs ++ leB 4 (m % 4294967296))) := by
  obtain ⟨o, ho⟩ : ∃ o, o = Obj.cells #[.int .i64 4, sec, .int .i64 n, .int .u64 m, .int .i64 i, b, s, l] 46 := ⟨_, rfl⟩
  obtain ⟨h0, hw0⟩ := h.box o
  have hb0 : base ≤ (w.alloc o).heap.size := by simp; omega
  have C1 := w32_any _ base p v bs h0 hb0 (by omega) (m % 4294967296) (by omega)
  have HW0 := Lib.hid hw0
  rw [ho] at C1
  simp only [Int.natCast_emod] at C1
  have HO := Lib.hid ho
  clear h0 hw0 ho h
  go_enter Tryd.func44, Tryd.ntmps44
  go_wp2_with fail
  refine C1.mono ?_
  rintro e w1 ⟨rfl, v1, hw1, hwr1⟩
  rw [← HO.out] at hwr1
  have hall := HW0.out.trans hwr1
  go_wp2
  go_ret2
  exact ⟨rfl, v1, hw1, hall⟩

end Go.Proofs.YtmmflhippbegaaaDoor
