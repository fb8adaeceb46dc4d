/- Merged: BackR, Short. -/
import Derived.Test.YtmmflhippbegaaaDoorZGetPut
import Derived.Test.YtmmflhippbegaaaDoorZAgain
import Derived.Test.YtmmflhippbegaaaDoorZPutL
import Derived.Test.YtmmflhippbegaaaDoorZSame
import Derived.Test.YtmmflhippbegaaaDoorZG3
/- readsBack (printed by wip/gen_back.py). -/
namespace Go.Proofs.YtmmflhippbegaaaDoor
set_option linter.unusedVariables false
open Go.ChangeShapes Go.WideShapes Go.ChangeAt Go.RowKit

/-- What readsBack answers and leaves, where the value's bytes stand at the Reader's place. -/
def BackOut (w : World) (B0 p : Nat) (v : Value) (bs : List UInt8) (k : Nat) (nb : List UInt8) (e : Ending) (w' : World) : Prop :=
  e = .returned (.bool true) ∧ Rdr w' B0 p v bs (k + nb.length) ∧ Eff (· = p) w w'
theorem gpt (sb : ByteArray) (t : List UInt8) (h : sb.size < 2 ^ 64) : getText sb.size ((uvar sb.size ++ sb.data.toList) ++ t) = .ok (sb.data.toList, (uvar sb.size ++ sb.data.toList).length) := by
  have e : sb.size = sb.data.toList.length := (Array.length_toList (xs := sb.data)).symm
  rw [e]; exact gp_text _ t (by omega)
theorem gct (sb : ByteArray) (k : Nat) (h : sb.size < 2 ^ 64) (hk : k < (uvar sb.size ++ sb.data.toList).length) : getText sb.size ((uvar sb.size ++ sb.data.toList).take k) = .error 1 := by
  have e : sb.size = sb.data.toList.length := (Array.length_toList (xs := sb.data)).symm
  rw [e] at hk ⊢; exact gc_text _ k (by omega) hk
theorem gpp {ls : List Int} (hok : okPck ls) (hf : FitL ls) (hl : ls.length ≤ 1000000000) (t : List UInt8) : toI (getPk ls.length (pckB (natOf ls) ++ t)) = .ok (ls, (pckB (natOf ls)).length) := by
  have h := gp_pk (natOf_fit hf) (fun _ h => by rw [natOf_length]; exact hok.2 ((zerosB_iff hok.1 hf).1 h)) (by rw [natOf_length]; omega) t
  rw [natOf_length] at h
  rw [h]; show Except.ok (natI (natOf ls), _) = _; rw [natI_natOf hok.1]
theorem gcp {ls : List Int} (hok : okPck ls) (hf : FitL ls) (hl : ls.length ≤ 1000000000) (k : Nat) (hk : k < (pckB (natOf ls)).length) : toI (getPk ls.length ((pckB (natOf ls)).take k)) = .error 1 := by
  have h := gc_pk (natOf_fit hf) (fun _ h => by rw [natOf_length]; exact hok.2 ((zerosB_iff hok.1 hf).1 h)) (by rw [natOf_length]; omega) k hk
  rw [natOf_length] at h
  rw [h]; rfl

set_option maxRecDepth 100000 in
set_option maxHeartbeats 1000000 in
theorem back_byte (w : World) (B0 p : Nat) (v : Value) (bs : List UInt8) (k : Nat) (h : Rdr w B0 p v bs k) (hB : B0 ≤ w.heap.size) (EA : Nat → Addr) (hE : RErr w EA) (hG : GLow B0) (sec b s l : Value) (n u i : Int) (hn0 : -9223372036854775808 ≤ n) (hn1 : n ≤ 9223372036854775807) (t : List UInt8) (ht : bs.drop k = [UInt8.ofNat (n % 256).toNat] ++ t) :
    Calls Tryd.prog 46 #[.pointer (some ⟨p, 0, none⟩), .agg #[.int .i64 1, sec, .int .i64 n, .int .u64 u, .int .i64 i, b, s, l]] w (BackOut w B0 p v bs k ([UInt8.ofNat (n % 256).toNat])) := by
  obtain ⟨o, ho⟩ : ∃ o, o = Obj.cells #[.int .i64 1, sec, .int .i64 n, .int .u64 u, .int .i64 i, b, s, l] 46 := ⟨_, rfl⟩
  have he0 : Eff (· = p) w (w.alloc o) := (Eff.refl _ _).alloc _
  have h0 : Rdr (w.alloc o) B0 p v bs k := h.eff (F := fun _ => False) ((Eff.refl _ _).alloc _) (fun _ _ f => f)
  have hE0 : RErr (w.alloc o) EA := hE.eff ((Eff.refl (fun _ => False) _).alloc _) hG (fun _ f => f.elim)
  have hB0 : B0 ≤ (w.alloc o).heap.size := by simp; omega
  have hnb : ¬ w.heap.size = p := fun e => by have := (h.ge p (.inl rfl)).2; omega
  have hpB := h.hp
  have hbx : (w.alloc o).heap[w.heap.size]? = some o := heap_alloc_new w _
  have BX : ∀ w1, Eff (· = p) (w.alloc o) w1 → Cells8 w1 w.heap.size (.int .i64 1) sec (.int .i64 n) (.int .u64 u) (.int .i64 i) b s l := fun w1 he => by
    have h1 := he.block w.heap.size (by simp) hnb
    rw [hbx, ho] at h1
    exact Cells8.of h1
  have C1 := rbyte_out _ B0 p v bs k h0 EA hE0
  have hres : getB (bs.drop k) = .ok ((UInt8.ofNat (n % 256).toNat).toNat, 1) := by rw [ht]; exact by show Except.ok ((UInt8.ofNat (n % 256).toNat).toNat, 1) = _; rfl
  have hx : ((UInt8.ofNat (n % 256).toNat).toNat : Int) = n % 256 := by simp; omega
  have HE0 := Lib.hid he0
  have HBX := Lib.hid BX
  have HR := Lib.hid hres
  rw [ho] at C1
  have HO := Lib.hid ho
  clear BX hbx hnb hB0 hE0 h0 he0 ho hres ht hE hG h
  go_enter Tryd.func46, Tryd.ntmps46
  go_wp2_with fail
  refine C1.mono ?_
  rintro e w1 ⟨_, h1⟩
  have hh := h1 _ _ HR.out
  simp only [hx] at hh
  obtain ⟨rfl, hr1, he1⟩ := hh
  rw [← HO.out] at he1
  obtain ⟨d0, d1, d2, d3, d4, d5, d6, d7⟩ := HBX.out _ he1
  have HE1 := Lib.hid (HE0.out.trans he1 (fun _ h _ => h))
  have HR1 := Lib.hid hr1
  clear he1 hr1 h1 HBX HO C1
  go_wp2
  go_ret
  exact ⟨rfl, HR1.out, HE1.out⟩

set_option maxRecDepth 100000 in
set_option maxHeartbeats 1000000 in
theorem back_uv (w : World) (B0 p : Nat) (v : Value) (bs : List UInt8) (k : Nat) (h : Rdr w B0 p v bs k) (hB : B0 ≤ w.heap.size) (EA : Nat → Addr) (hE : RErr w EA) (hG : GLow B0) (sec b s l : Value) (n u i : Int) (m : Nat) (hm : (m : Int) ≤ 18446744073709551615) (t : List UInt8) (ht : bs.drop k = uvar m ++ t) :
    Calls Tryd.prog 46 #[.pointer (some ⟨p, 0, none⟩), .agg #[.int .i64 2, sec, .int .i64 n, .int .u64 m, .int .i64 i, b, s, l]] w (BackOut w B0 p v bs k (uvar m)) := by
  obtain ⟨o, ho⟩ : ∃ o, o = Obj.cells #[.int .i64 2, sec, .int .i64 n, .int .u64 m, .int .i64 i, b, s, l] 46 := ⟨_, rfl⟩
  have he0 : Eff (· = p) w (w.alloc o) := (Eff.refl _ _).alloc _
  have h0 : Rdr (w.alloc o) B0 p v bs k := h.eff (F := fun _ => False) ((Eff.refl _ _).alloc _) (fun _ _ f => f)
  have hE0 : RErr (w.alloc o) EA := hE.eff ((Eff.refl (fun _ => False) _).alloc _) hG (fun _ f => f.elim)
  have hB0 : B0 ≤ (w.alloc o).heap.size := by simp; omega
  have hnb : ¬ w.heap.size = p := fun e => by have := (h.ge p (.inl rfl)).2; omega
  have hpB := h.hp
  have hbx : (w.alloc o).heap[w.heap.size]? = some o := heap_alloc_new w _
  have BX : ∀ w1, Eff (· = p) (w.alloc o) w1 → Cells8 w1 w.heap.size (.int .i64 2) sec (.int .i64 n) (.int .u64 m) (.int .i64 i) b s l := fun w1 he => by
    have h1 := he.block w.heap.size (by simp) hnb
    rw [hbx, ho] at h1
    exact Cells8.of h1
  have C1 := ruv_out _ B0 p v bs k h0 EA hE0
  have hres : getU (bs.drop k) = .ok (m, (uvar m).length) := by rw [ht]; exact getU_uvar m (by omega) t
  have HE0 := Lib.hid he0
  have HBX := Lib.hid BX
  have HR := Lib.hid hres
  rw [ho] at C1
  have HO := Lib.hid ho
  clear BX hbx hnb hB0 hE0 h0 he0 ho hres ht hE hG h
  go_enter Tryd.func46, Tryd.ntmps46
  go_wp2_with fail
  refine C1.mono ?_
  rintro e w1 ⟨_, h1⟩
  obtain ⟨rfl, hr1, he1⟩ := h1 _ _ HR.out
  rw [← HO.out] at he1
  obtain ⟨d0, d1, d2, d3, d4, d5, d6, d7⟩ := HBX.out _ he1
  have HE1 := Lib.hid (HE0.out.trans he1 (fun _ h _ => h))
  have HR1 := Lib.hid hr1
  clear he1 hr1 h1 HBX HO C1
  go_wp2
  go_ret
  exact ⟨rfl, HR1.out, HE1.out⟩

set_option maxRecDepth 100000 in
set_option maxHeartbeats 1000000 in
theorem back_var (w : World) (B0 p : Nat) (v : Value) (bs : List UInt8) (k : Nat) (h : Rdr w B0 p v bs k) (hB : B0 ≤ w.heap.size) (EA : Nat → Addr) (hE : RErr w EA) (hG : GLow B0) (sec b s l : Value) (n u i : Int) (hi0 : -9223372036854775808 ≤ i) (hi1 : i ≤ 9223372036854775807) (t : List UInt8) (ht : bs.drop k = uvar (zigI i).toNat ++ t) :
    Calls Tryd.prog 46 #[.pointer (some ⟨p, 0, none⟩), .agg #[.int .i64 3, sec, .int .i64 n, .int .u64 u, .int .i64 i, b, s, l]] w (BackOut w B0 p v bs k (uvar (zigI i).toNat)) := by
  obtain ⟨o, ho⟩ : ∃ o, o = Obj.cells #[.int .i64 3, sec, .int .i64 n, .int .u64 u, .int .i64 i, b, s, l] 46 := ⟨_, rfl⟩
  have he0 : Eff (· = p) w (w.alloc o) := (Eff.refl _ _).alloc _
  have h0 : Rdr (w.alloc o) B0 p v bs k := h.eff (F := fun _ => False) ((Eff.refl _ _).alloc _) (fun _ _ f => f)
  have hE0 : RErr (w.alloc o) EA := hE.eff ((Eff.refl (fun _ => False) _).alloc _) hG (fun _ f => f.elim)
  have hB0 : B0 ≤ (w.alloc o).heap.size := by simp; omega
  have hnb : ¬ w.heap.size = p := fun e => by have := (h.ge p (.inl rfl)).2; omega
  have hpB := h.hp
  have hbx : (w.alloc o).heap[w.heap.size]? = some o := heap_alloc_new w _
  have BX : ∀ w1, Eff (· = p) (w.alloc o) w1 → Cells8 w1 w.heap.size (.int .i64 3) sec (.int .i64 n) (.int .u64 u) (.int .i64 i) b s l := fun w1 he => by
    have h1 := he.block w.heap.size (by simp) hnb
    rw [hbx, ho] at h1
    exact Cells8.of h1
  have C1 := rvar_out _ B0 p v bs k h0 EA hE0
  have hres : getU (bs.drop k) = .ok ((zigI i).toNat, (uvar (zigI i).toNat).length) := by rw [ht]; exact getU_uvar _ (by have := zigI_bd i hi0 hi1; omega) t
  have hx : zagI ((zigI i).toNat : Nat) = i := by have := zigI_bd i hi0 hi1; rw [Int.toNat_of_nonneg this.1, zag_zig]
  have HE0 := Lib.hid he0
  have HBX := Lib.hid BX
  have HR := Lib.hid hres
  rw [ho] at C1
  have HO := Lib.hid ho
  clear BX hbx hnb hB0 hE0 h0 he0 ho hres ht hE hG h
  go_enter Tryd.func46, Tryd.ntmps46
  go_wp2_with fail
  refine C1.mono ?_
  rintro e w1 ⟨_, h1⟩
  have hh := h1 _ _ HR.out
  simp only [hx] at hh
  obtain ⟨rfl, hr1, he1⟩ := hh
  rw [← HO.out] at he1
  obtain ⟨d0, d1, d2, d3, d4, d5, d6, d7⟩ := HBX.out _ he1
  have HE1 := Lib.hid (HE0.out.trans he1 (fun _ h _ => h))
  have HR1 := Lib.hid hr1
  clear he1 hr1 h1 HBX HO C1
  go_wp2
  go_ret
  exact ⟨rfl, HR1.out, HE1.out⟩

set_option maxRecDepth 100000 in
set_option maxHeartbeats 1000000 in
theorem back_w32 (w : World) (B0 p : Nat) (v : Value) (bs : List UInt8) (k : Nat) (h : Rdr w B0 p v bs k) (hB : B0 ≤ w.heap.size) (EA : Nat → Addr) (hE : RErr w EA) (hG : GLow B0) (sec b s l : Value) (n u i : Int) (m : Nat) (hm : (m : Int) ≤ 18446744073709551615) (t : List UInt8) (ht : bs.drop k = leB 4 (m % 4294967296) ++ t) :
    Calls Tryd.prog 46 #[.pointer (some ⟨p, 0, none⟩), .agg #[.int .i64 4, sec, .int .i64 n, .int .u64 m, .int .i64 i, b, s, l]] w (BackOut w B0 p v bs k (leB 4 (m % 4294967296))) := by
  obtain ⟨o, ho⟩ : ∃ o, o = Obj.cells #[.int .i64 4, sec, .int .i64 n, .int .u64 m, .int .i64 i, b, s, l] 46 := ⟨_, rfl⟩
  have he0 : Eff (· = p) w (w.alloc o) := (Eff.refl _ _).alloc _
  have h0 : Rdr (w.alloc o) B0 p v bs k := h.eff (F := fun _ => False) ((Eff.refl _ _).alloc _) (fun _ _ f => f)
  have hE0 : RErr (w.alloc o) EA := hE.eff ((Eff.refl (fun _ => False) _).alloc _) hG (fun _ f => f.elim)
  have hB0 : B0 ≤ (w.alloc o).heap.size := by simp; omega
  have hnb : ¬ w.heap.size = p := fun e => by have := (h.ge p (.inl rfl)).2; omega
  have hpB := h.hp
  have hbx : (w.alloc o).heap[w.heap.size]? = some o := heap_alloc_new w _
  have BX : ∀ w1, Eff (· = p) (w.alloc o) w1 → Cells8 w1 w.heap.size (.int .i64 4) sec (.int .i64 n) (.int .u64 m) (.int .i64 i) b s l := fun w1 he => by
    have h1 := he.block w.heap.size (by simp) hnb
    rw [hbx, ho] at h1
    exact Cells8.of h1
  have C1 := r32_out _ B0 p v bs k h0 EA hE0
  have hres : getW 4 (bs.drop k) = .ok (m % 4294967296, 4) := by rw [ht]; exact gp_w 4 _ (Nat.mod_lt _ (by decide)) t
  have HE0 := Lib.hid he0
  have HBX := Lib.hid BX
  have HR := Lib.hid hres
  rw [ho] at C1
  have HO := Lib.hid ho
  clear BX hbx hnb hB0 hE0 h0 he0 ho hres ht hE hG h
  go_enter Tryd.func46, Tryd.ntmps46
  go_wp2_with fail
  refine C1.mono ?_
  rintro e w1 ⟨_, h1⟩
  have hh := h1 _ _ HR.out
  simp only [Int.natCast_emod] at hh
  obtain ⟨rfl, hr1, he1⟩ := hh
  rw [← HO.out] at he1
  obtain ⟨d0, d1, d2, d3, d4, d5, d6, d7⟩ := HBX.out _ he1
  have HE1 := Lib.hid (HE0.out.trans he1 (fun _ h _ => h))
  have HR1 := Lib.hid hr1
  clear he1 hr1 h1 HBX HO C1
  go_wp2
  go_ret
  exact ⟨rfl, HR1.out, HE1.out⟩

set_option maxRecDepth 100000 in
set_option maxHeartbeats 1000000 in
theorem back_w64 (w : World) (B0 p : Nat) (v : Value) (bs : List UInt8) (k : Nat) (h : Rdr w B0 p v bs k) (hB : B0 ≤ w.heap.size) (EA : Nat → Addr) (hE : RErr w EA) (hG : GLow B0) (sec b s l : Value) (n u i : Int) (m : Nat) (hm : (m : Int) ≤ 18446744073709551615) (t : List UInt8) (ht : bs.drop k = leB 8 m ++ t) :
    Calls Tryd.prog 46 #[.pointer (some ⟨p, 0, none⟩), .agg #[.int .i64 5, sec, .int .i64 n, .int .u64 m, .int .i64 i, b, s, l]] w (BackOut w B0 p v bs k (leB 8 m)) := by
  obtain ⟨o, ho⟩ : ∃ o, o = Obj.cells #[.int .i64 5, sec, .int .i64 n, .int .u64 m, .int .i64 i, b, s, l] 46 := ⟨_, rfl⟩
  have he0 : Eff (· = p) w (w.alloc o) := (Eff.refl _ _).alloc _
  have h0 : Rdr (w.alloc o) B0 p v bs k := h.eff (F := fun _ => False) ((Eff.refl _ _).alloc _) (fun _ _ f => f)
  have hE0 : RErr (w.alloc o) EA := hE.eff ((Eff.refl (fun _ => False) _).alloc _) hG (fun _ f => f.elim)
  have hB0 : B0 ≤ (w.alloc o).heap.size := by simp; omega
  have hnb : ¬ w.heap.size = p := fun e => by have := (h.ge p (.inl rfl)).2; omega
  have hpB := h.hp
  have hbx : (w.alloc o).heap[w.heap.size]? = some o := heap_alloc_new w _
  have BX : ∀ w1, Eff (· = p) (w.alloc o) w1 → Cells8 w1 w.heap.size (.int .i64 5) sec (.int .i64 n) (.int .u64 m) (.int .i64 i) b s l := fun w1 he => by
    have h1 := he.block w.heap.size (by simp) hnb
    rw [hbx, ho] at h1
    exact Cells8.of h1
  have C1 := r64_out _ B0 p v bs k h0 EA hE0
  have hres : getW 8 (bs.drop k) = .ok (m, 8) := by rw [ht]; exact gp_w 8 m (by omega) t
  have HE0 := Lib.hid he0
  have HBX := Lib.hid BX
  have HR := Lib.hid hres
  rw [ho] at C1
  have HO := Lib.hid ho
  clear BX hbx hnb hB0 hE0 h0 he0 ho hres ht hE hG h
  go_enter Tryd.func46, Tryd.ntmps46
  go_wp2_with fail
  refine C1.mono ?_
  rintro e w1 ⟨_, h1⟩
  obtain ⟨rfl, hr1, he1⟩ := h1 _ _ HR.out
  rw [← HO.out] at he1
  obtain ⟨d0, d1, d2, d3, d4, d5, d6, d7⟩ := HBX.out _ he1
  have HE1 := Lib.hid (HE0.out.trans he1 (fun _ h _ => h))
  have HR1 := Lib.hid hr1
  clear he1 hr1 h1 HBX HO C1
  go_wp2
  go_ret
  exact ⟨rfl, HR1.out, HE1.out⟩

set_option maxRecDepth 100000 in
set_option maxHeartbeats 1000000 in
theorem back_upto (w : World) (B0 p : Nat) (v : Value) (bs : List UInt8) (k : Nat) (h : Rdr w B0 p v bs k) (hB : B0 ≤ w.heap.size) (EA : Nat → Addr) (hE : RErr w EA) (hG : GLow B0) (sec b s l : Value) (n u i : Int) (m : Nat) (hm : (m : Int) ≤ 9223372036854775807) (t : List UInt8) (ht : bs.drop k = uvar m ++ t) :
    Calls Tryd.prog 46 #[.pointer (some ⟨p, 0, none⟩), .agg #[.int .i64 10, sec, .int .i64 n, .int .u64 m, .int .i64 i, b, s, l]] w (BackOut w B0 p v bs k (uvar m)) := by
  obtain ⟨o, ho⟩ : ∃ o, o = Obj.cells #[.int .i64 10, sec, .int .i64 n, .int .u64 m, .int .i64 i, b, s, l] 46 := ⟨_, rfl⟩
  have he0 : Eff (· = p) w (w.alloc o) := (Eff.refl _ _).alloc _
  have h0 : Rdr (w.alloc o) B0 p v bs k := h.eff (F := fun _ => False) ((Eff.refl _ _).alloc _) (fun _ _ f => f)
  have hE0 : RErr (w.alloc o) EA := hE.eff ((Eff.refl (fun _ => False) _).alloc _) hG (fun _ f => f.elim)
  have hB0 : B0 ≤ (w.alloc o).heap.size := by simp; omega
  have hnb : ¬ w.heap.size = p := fun e => by have := (h.ge p (.inl rfl)).2; omega
  have hpB := h.hp
  have hbx : (w.alloc o).heap[w.heap.size]? = some o := heap_alloc_new w _
  have BX : ∀ w1, Eff (· = p) (w.alloc o) w1 → Cells8 w1 w.heap.size (.int .i64 10) sec (.int .i64 n) (.int .u64 m) (.int .i64 i) b s l := fun w1 he => by
    have h1 := he.block w.heap.size (by simp) hnb
    rw [hbx, ho] at h1
    exact Cells8.of h1
  have C1 := rupto_out _ B0 p v bs k h0 EA hE0 hG m (by omega) (by omega)
  have hres : getUpto m (bs.drop k) = .ok (m, (uvar m).length) := by rw [ht]; exact gp_upto m m (by omega) (Int.le_refl _) t
  have HE0 := Lib.hid he0
  have HBX := Lib.hid BX
  have HR := Lib.hid hres
  rw [ho] at C1
  have HO := Lib.hid ho
  clear BX hbx hnb hB0 hE0 h0 he0 ho hres ht hE hG h
  go_enter Tryd.func46, Tryd.ntmps46
  go_wp2_with fail
  refine C1.mono ?_
  rintro e w1 ⟨_, h1⟩
  obtain ⟨rfl, hr1, he1⟩ := h1 _ _ HR.out
  rw [← HO.out] at he1
  obtain ⟨d0, d1, d2, d3, d4, d5, d6, d7⟩ := HBX.out _ he1
  have HE1 := Lib.hid (HE0.out.trans he1 (fun _ h _ => h))
  have HR1 := Lib.hid hr1
  clear he1 hr1 h1 HBX HO C1
  go_wp2
  go_ret
  exact ⟨rfl, HR1.out, HE1.out⟩

set_option maxRecDepth 100000 in
set_option maxHeartbeats 1000000 in
theorem back_raw (w : World) (B0 p : Nat) (v : Value) (bs : List UInt8) (k : Nat) (h : Rdr w B0 p v bs k) (hB : B0 ≤ w.heap.size) (EA : Nat → Addr) (hE : RErr w EA) (hG : GLow B0) (sec b s l : Value) (n u i : Int) (ba : Option Addr) (bn bc : Nat) (cs : List UInt8) (hrd : Rd w (.slice ba bn bc) (bytesV cs)) (hcs : cs.length ≤ 1000000000) (hlow : 0 < cs.length → ∀ b o, ba = some ⟨b, o, none⟩ → b < B0) (t : List UInt8) (ht : bs.drop k = cs ++ t) :
    Calls Tryd.prog 46 #[.pointer (some ⟨p, 0, none⟩), .agg #[.int .i64 6, sec, .int .i64 n, .int .u64 u, .int .i64 i, .slice ba bn bc, s, l]] w (BackOut w B0 p v bs k (cs)) := by
  obtain ⟨o, ho⟩ : ∃ o, o = Obj.cells #[.int .i64 6, sec, .int .i64 n, .int .u64 u, .int .i64 i, .slice ba bn bc, s, l] 46 := ⟨_, rfl⟩
  have he0 : Eff (· = p) w (w.alloc o) := (Eff.refl _ _).alloc _
  have h0 : Rdr (w.alloc o) B0 p v bs k := h.eff (F := fun _ => False) ((Eff.refl _ _).alloc _) (fun _ _ f => f)
  have hE0 : RErr (w.alloc o) EA := hE.eff ((Eff.refl (fun _ => False) _).alloc _) hG (fun _ f => f.elim)
  have hB0 : B0 ≤ (w.alloc o).heap.size := by simp; omega
  have hnb : ¬ w.heap.size = p := fun e => by have := (h.ge p (.inl rfl)).2; omega
  have hpB := h.hp
  have hbx : (w.alloc o).heap[w.heap.size]? = some o := heap_alloc_new w _
  have BX : ∀ w1, Eff (· = p) (w.alloc o) w1 → Cells8 w1 w.heap.size (.int .i64 6) sec (.int .i64 n) (.int .u64 u) (.int .i64 i) (.slice ba bn bc) s l := fun w1 he => by
    have h1 := he.block w.heap.size (by simp) hnb
    rw [hbx, ho] at h1
    exact Cells8.of h1
  have C1 := rraw_any _ B0 p v bs k h0 EA hE0 cs.length (by omega) (by omega)
  have hres : getRaw cs.length (bs.drop k) = .ok (cs, cs.length) := by rw [ht]; exact gp_raw cs t
  have hn1 : bn = cs.length := by obtain ⟨A, c, e, _⟩ := hrd; injection e with _ e _; rw [e, bytesV_length]
  subst hn1
  have HRD := Lib.hid (hrd.below ((Below.refl w.heap.size w).alloc (Nat.le_refl _) o) (Nat.le_refl _))
  have HLOW := Lib.hid hlow
  have HE0 := Lib.hid he0
  have HBX := Lib.hid BX
  have HR := Lib.hid hres
  rw [ho] at C1
  have HO := Lib.hid ho
  clear BX hbx hnb hB0 hE0 h0 he0 ho hres ht hE hG h hrd hlow
  go_enter Tryd.func46, Tryd.ntmps46
  go_wp2_with fail
  refine C1.mono ?_
  rintro e w1 ⟨_, h1⟩
  obtain ⟨v1, rfl, ho1, hr1, he1⟩ := h1 _ _ HR.out
  rw [← HO.out] at he1 ho1
  obtain ⟨a1, n1, c1, rfl⟩ := own_sl ho1
  obtain ⟨d0, d1, d2, d3, d4, d5, d6, d7⟩ := HBX.out _ he1
  have r4 := run_str (P := Tryd.prog) Tryd.underlying37 Tryd.underlying5 Tryd.underlying9 ho1.rd
  have r5 := run_str (P := Tryd.prog) Tryd.underlying37 Tryd.underlying5 Tryd.underlying9 ((HRD.out.eff0 he1 (fun z0 b o l c e => by rw [bytesV_length] at z0; injection e with e _ _; have := HLOW.out z0 b o e; omega)))
  have HE1 := Lib.hid (HE0.out.trans he1 (fun _ h _ => h))
  have HR1 := Lib.hid hr1
  clear he1 hr1 h1 HBX HO C1
  go_wp2
  go_ret
  exact ⟨rfl, HR1.out, HE1.out⟩

set_option maxRecDepth 100000 in
set_option maxHeartbeats 1000000 in
theorem back_text (w : World) (B0 p : Nat) (v : Value) (bs : List UInt8) (k : Nat) (h : Rdr w B0 p v bs k) (hB : B0 ≤ w.heap.size) (EA : Nat → Addr) (hE : RErr w EA) (hG : GLow B0) (sec b s l : Value) (n u i : Int) (sb : ByteArray) (hsb : sb.size ≤ 1000000000) (t : List UInt8) (ht : bs.drop k = (uvar sb.size ++ sb.data.toList) ++ t) :
    Calls Tryd.prog 46 #[.pointer (some ⟨p, 0, none⟩), .agg #[.int .i64 7, sec, .int .i64 n, .int .u64 u, .int .i64 i, b, .string sb, l]] w (BackOut w B0 p v bs k ((uvar sb.size ++ sb.data.toList))) := by
  obtain ⟨o, ho⟩ : ∃ o, o = Obj.cells #[.int .i64 7, sec, .int .i64 n, .int .u64 u, .int .i64 i, b, .string sb, l] 46 := ⟨_, rfl⟩
  have he0 : Eff (· = p) w (w.alloc o) := (Eff.refl _ _).alloc _
  have h0 : Rdr (w.alloc o) B0 p v bs k := h.eff (F := fun _ => False) ((Eff.refl _ _).alloc _) (fun _ _ f => f)
  have hE0 : RErr (w.alloc o) EA := hE.eff ((Eff.refl (fun _ => False) _).alloc _) hG (fun _ f => f.elim)
  have hB0 : B0 ≤ (w.alloc o).heap.size := by simp; omega
  have hnb : ¬ w.heap.size = p := fun e => by have := (h.ge p (.inl rfl)).2; omega
  have hpB := h.hp
  have hbx : (w.alloc o).heap[w.heap.size]? = some o := heap_alloc_new w _
  have BX : ∀ w1, Eff (· = p) (w.alloc o) w1 → Cells8 w1 w.heap.size (.int .i64 7) sec (.int .i64 n) (.int .u64 u) (.int .i64 i) b (.string sb) l := fun w1 he => by
    have h1 := he.block w.heap.size (by simp) hnb
    rw [hbx, ho] at h1
    exact Cells8.of h1
  have C1 := rtext_any _ B0 p v bs k h0 EA hE0 hG sb.size (by omega) (by omega)
  have hres : getText sb.size (bs.drop k) = .ok (sb.data.toList, (uvar sb.size ++ sb.data.toList).length) := by rw [ht]; exact gpt sb t (by omega)
  have hs1 : strOf sb.data.toList = sb := by cases sb; rfl
  have HE0 := Lib.hid he0
  have HBX := Lib.hid BX
  have HR := Lib.hid hres
  rw [ho] at C1
  have HO := Lib.hid ho
  clear BX hbx hnb hB0 hE0 h0 he0 ho hres ht hE hG h
  go_enter Tryd.func46, Tryd.ntmps46
  go_wp2_with fail
  refine C1.mono ?_
  rintro e w1 ⟨_, h1⟩
  have hh := h1 _ _ HR.out
  simp only [hs1] at hh
  obtain ⟨rfl, hr1, he1⟩ := hh
  rw [← HO.out] at he1
  obtain ⟨d0, d1, d2, d3, d4, d5, d6, d7⟩ := HBX.out _ he1
  have HE1 := Lib.hid (HE0.out.trans he1 (fun _ h _ => h))
  have HR1 := Lib.hid hr1
  clear he1 hr1 h1 HBX HO C1
  go_wp2
  go_ret
  exact ⟨rfl, HR1.out, HE1.out⟩

set_option maxRecDepth 100000 in
set_option maxHeartbeats 1000000 in
theorem back_ris (w : World) (B0 p : Nat) (v : Value) (bs : List UInt8) (k : Nat) (h : Rdr w B0 p v bs k) (hB : B0 ≤ w.heap.size) (EA : Nat → Addr) (hE : RErr w EA) (hG : GLow B0) (sec b s l : Value) (n u i : Int) (la : Option Addr) (ln lc : Nat) (ls : List Int) (hrd : Rd w (.slice la ln lc) (intL ls)) (hll : ls.length ≤ 1000000000) (hf : FitL ls) (hok : anyNeg ls = false ∧ rises ls) (hlow : 0 < ls.length → ∀ b o, la = some ⟨b, o, none⟩ → b < B0) (t : List UInt8) (ht : bs.drop k = risB ls ++ t) :
    Calls Tryd.prog 46 #[.pointer (some ⟨p, 0, none⟩), .agg #[.int .i64 8, sec, .int .i64 n, .int .u64 u, .int .i64 i, b, s, .slice la ln lc]] w (BackOut w B0 p v bs k (risB ls)) := by
  obtain ⟨o, ho⟩ : ∃ o, o = Obj.cells #[.int .i64 8, sec, .int .i64 n, .int .u64 u, .int .i64 i, b, s, .slice la ln lc] 46 := ⟨_, rfl⟩
  have he0 : Eff (· = p) w (w.alloc o) := (Eff.refl _ _).alloc _
  have h0 : Rdr (w.alloc o) B0 p v bs k := h.eff (F := fun _ => False) ((Eff.refl _ _).alloc _) (fun _ _ f => f)
  have hE0 : RErr (w.alloc o) EA := hE.eff ((Eff.refl (fun _ => False) _).alloc _) hG (fun _ f => f.elim)
  have hB0 : B0 ≤ (w.alloc o).heap.size := by simp; omega
  have hnb : ¬ w.heap.size = p := fun e => by have := (h.ge p (.inl rfl)).2; omega
  have hpB := h.hp
  have hbx : (w.alloc o).heap[w.heap.size]? = some o := heap_alloc_new w _
  have BX : ∀ w1, Eff (· = p) (w.alloc o) w1 → Cells8 w1 w.heap.size (.int .i64 8) sec (.int .i64 n) (.int .u64 u) (.int .i64 i) b s (.slice la ln lc) := fun w1 he => by
    have h1 := he.block w.heap.size (by simp) hnb
    rw [hbx, ho] at h1
    exact Cells8.of h1
  have C1 := rris_out _ B0 p v bs k h0 hB0 EA hE0 hG ls.length (by omega) (by omega)
  have hres : getRis ls.length (bs.drop k) = .ok (ls, (risB ls).length) := by rw [ht]; exact gp_ris hok.1 hok.2 hf (by omega) t
  have hn1 : ln = ls.length := by obtain ⟨A, c, e, _⟩ := hrd; injection e with _ e _; rw [e, intL_length]
  subst hn1
  have HRD := Lib.hid (hrd.below ((Below.refl w.heap.size w).alloc (Nat.le_refl _) o) (Nat.le_refl _))
  have HLOW := Lib.hid hlow
  have HE0 := Lib.hid he0
  have HBX := Lib.hid BX
  have HR := Lib.hid hres
  rw [ho] at C1
  have HO := Lib.hid ho
  clear BX hbx hnb hB0 hE0 h0 he0 ho hres ht hE hG h hrd hlow hf hok
  go_enter Tryd.func46, Tryd.ntmps46
  go_wp2_with fail
  refine C1.mono ?_
  rintro e w1 ⟨_, h1⟩
  obtain ⟨v1, rfl, ho1, hr1, he1⟩ := h1 _ _ HR.out
  rw [← HO.out] at he1 ho1
  obtain ⟨a1, n1, c1, rfl⟩ := own_sl ho1
  obtain ⟨d0, d1, d2, d3, d4, d5, d6, d7⟩ := HBX.out _ he1
  have C2 := same_any w1 a1 la n1 ls.length c1 lc ls ls ho1.rd (HRD.out.eff0 he1 (fun z0 b o l c e => by rw [intL_length] at z0; injection e with e _ _; have := HLOW.out z0 b o e; omega)) (by omega) (by omega)
  have HE1 := Lib.hid (HE0.out.trans he1 (fun _ h _ => h))
  have HR1 := Lib.hid hr1
  clear he1 hr1 h1 HBX HO C1
  go_wp2_with fail
  refine C2.mono ?_
  rintro e w2 ⟨rfl, d, rfl⟩
  go_wp2
  go_ret
  exact ⟨by simp, HR1.out.drewN d, HE1.out.drewN d⟩

set_option maxRecDepth 100000 in
set_option maxHeartbeats 1000000 in
theorem back_pck (w : World) (B0 p : Nat) (v : Value) (bs : List UInt8) (k : Nat) (h : Rdr w B0 p v bs k) (hB : B0 ≤ w.heap.size) (EA : Nat → Addr) (hE : RErr w EA) (hG : GLow B0) (sec b s l : Value) (n u i : Int) (la : Option Addr) (ln lc : Nat) (ls : List Int) (hrd : Rd w (.slice la ln lc) (intL ls)) (hll : ls.length ≤ 1000000000) (hf : FitL ls) (hok : okPck ls) (hlow : 0 < ls.length → ∀ b o, la = some ⟨b, o, none⟩ → b < B0) (t : List UInt8) (ht : bs.drop k = pckB (natOf ls) ++ t) :
    Calls Tryd.prog 46 #[.pointer (some ⟨p, 0, none⟩), .agg #[.int .i64 9, sec, .int .i64 n, .int .u64 u, .int .i64 i, b, s, .slice la ln lc]] w (BackOut w B0 p v bs k (pckB (natOf ls))) := by
  obtain ⟨o, ho⟩ : ∃ o, o = Obj.cells #[.int .i64 9, sec, .int .i64 n, .int .u64 u, .int .i64 i, b, s, .slice la ln lc] 46 := ⟨_, rfl⟩
  have he0 : Eff (· = p) w (w.alloc o) := (Eff.refl _ _).alloc _
  have h0 : Rdr (w.alloc o) B0 p v bs k := h.eff (F := fun _ => False) ((Eff.refl _ _).alloc _) (fun _ _ f => f)
  have hE0 : RErr (w.alloc o) EA := hE.eff ((Eff.refl (fun _ => False) _).alloc _) hG (fun _ f => f.elim)
  have hB0 : B0 ≤ (w.alloc o).heap.size := by simp; omega
  have hnb : ¬ w.heap.size = p := fun e => by have := (h.ge p (.inl rfl)).2; omega
  have hpB := h.hp
  have hbx : (w.alloc o).heap[w.heap.size]? = some o := heap_alloc_new w _
  have BX : ∀ w1, Eff (· = p) (w.alloc o) w1 → Cells8 w1 w.heap.size (.int .i64 9) sec (.int .i64 n) (.int .u64 u) (.int .i64 i) b s (.slice la ln lc) := fun w1 he => by
    have h1 := he.block w.heap.size (by simp) hnb
    rw [hbx, ho] at h1
    exact Cells8.of h1
  have C1 := rpck_out _ B0 p v bs k h0 hB0 EA hE0 hG ls.length (by omega) (by omega)
  have hres : toI (getPk ls.length (bs.drop k)) = .ok (ls, (pckB (natOf ls)).length) := by rw [ht]; exact gpp hok hf hll t
  have hn1 : ln = ls.length := by obtain ⟨A, c, e, _⟩ := hrd; injection e with _ e _; rw [e, intL_length]
  subst hn1
  have HRD := Lib.hid (hrd.below ((Below.refl w.heap.size w).alloc (Nat.le_refl _) o) (Nat.le_refl _))
  have HLOW := Lib.hid hlow
  have HE0 := Lib.hid he0
  have HBX := Lib.hid BX
  have HR := Lib.hid hres
  rw [ho] at C1
  have HO := Lib.hid ho
  clear BX hbx hnb hB0 hE0 h0 he0 ho hres ht hE hG h hrd hlow hf hok
  go_enter Tryd.func46, Tryd.ntmps46
  go_wp2_with fail
  refine C1.mono ?_
  rintro e w1 ⟨_, h1⟩
  obtain ⟨v1, rfl, ho1, hr1, he1⟩ := h1 _ _ HR.out
  rw [← HO.out] at he1 ho1
  obtain ⟨a1, n1, c1, rfl⟩ := own_sl ho1
  obtain ⟨d0, d1, d2, d3, d4, d5, d6, d7⟩ := HBX.out _ he1
  have C2 := same_any w1 a1 la n1 ls.length c1 lc ls ls ho1.rd (HRD.out.eff0 he1 (fun z0 b o l c e => by rw [intL_length] at z0; injection e with e _ _; have := HLOW.out z0 b o e; omega)) (by omega) (by omega)
  have HE1 := Lib.hid (HE0.out.trans he1 (fun _ h _ => h))
  have HR1 := Lib.hid hr1
  clear he1 hr1 h1 HBX HO C1
  go_wp2_with fail
  refine C2.mono ?_
  rintro e w2 ⟨rfl, d, rfl⟩
  go_wp2
  go_ret
  exact ⟨by simp, HR1.out.drewN d, HE1.out.drewN d⟩

set_option maxRecDepth 100000 in
set_option maxHeartbeats 1000000 in
theorem back_big (w : World) (B0 p : Nat) (v : Value) (bs : List UInt8) (k : Nat) (h : Rdr w B0 p v bs k) (hB : B0 ≤ w.heap.size) (EA : Nat → Addr) (hE : RErr w EA) (hG : GLow B0) (sec b s l : Value) (n i : Int) (m : Nat) (hm : (m : Int) ≤ 18446744073709551615) (hbig : 9223372036854775807 < (m : Int)) (t : List UInt8) (ht : bs.drop k = uvar m ++ t) :
    Calls Tryd.prog 46 #[.pointer (some ⟨p, 0, none⟩), .agg #[.int .i64 10, sec, .int .i64 n, .int .u64 m, .int .i64 i, b, s, l]] w (BackOut w B0 p v bs k (uvar m)) := by
  obtain ⟨o, ho⟩ : ∃ o, o = Obj.cells #[.int .i64 10, sec, .int .i64 n, .int .u64 m, .int .i64 i, b, s, l] 46 := ⟨_, rfl⟩
  have he0 : Eff (· = p) w (w.alloc o) := (Eff.refl _ _).alloc _
  have h0 : Rdr (w.alloc o) B0 p v bs k := h.eff (F := fun _ => False) ((Eff.refl _ _).alloc _) (fun _ _ f => f)
  have hE0 : RErr (w.alloc o) EA := hE.eff ((Eff.refl (fun _ => False) _).alloc _) hG (fun _ f => f.elim)
  have hB0 : B0 ≤ (w.alloc o).heap.size := by simp; omega
  have hnb : ¬ w.heap.size = p := fun e => by have := (h.ge p (.inl rfl)).2; omega
  have hpB := h.hp
  have hbx : (w.alloc o).heap[w.heap.size]? = some o := heap_alloc_new w _
  have BX : ∀ w1, Eff (· = p) (w.alloc o) w1 → Cells8 w1 w.heap.size (.int .i64 10) sec (.int .i64 n) (.int .u64 m) (.int .i64 i) b s l := fun w1 he => by
    have h1 := he.block w.heap.size (by simp) hnb
    rw [hbx, ho] at h1
    exact Cells8.of h1
  have C1 := rupto_out _ B0 p v bs k h0 EA hE0 hG 9223372036854775807 (by omega) (by omega)
  have hres : getUpto 9223372036854775807 (bs.drop k) = .error 3 := by rw [ht]; exact gp_upto_lim _ m (by omega) hbig t
  have hres2 : getU (bs.drop k) = .ok (m, (uvar m).length) := by rw [ht]; exact getU_uvar m (by omega) t
  have HE0 := Lib.hid he0
  have HBX := Lib.hid BX
  have HR := Lib.hid hres
  have HR2 := Lib.hid hres2
  have HEE := Lib.hid hE0
  have HGG := Lib.hid hG
  rw [ho] at C1
  have HO := Lib.hid ho
  clear BX hbx hnb hB0 hE0 h0 he0 ho hres hres2 ht hE hG h
  go_enter Tryd.func46, Tryd.ntmps46
  go_wp2_with fail
  refine C1.mono ?_
  rintro e w1 ⟨h1, _⟩
  obtain ⟨rfl, hr1, he1⟩ := h1 _ HR.out
  rw [← HO.out] at he1
  have C2 := ruv_out w1 B0 p v bs k hr1 EA (HEE.out.eff he1 HGG.out (fun k hk => by subst hk; exact hpB))
  have HR1 := Lib.hid he1
  clear he1 hr1 h1 C1
  unfold errV
  go_wp2_with fail
  refine C2.mono ?_
  rintro e w2 ⟨_, h1⟩
  obtain ⟨rfl, hr2, he2⟩ := h1 _ _ HR2.out
  have he3 := HR1.out.trans he2 (fun _ h _ => h)
  obtain ⟨d0, d1, d2, d3, d4, d5, d6, d7⟩ := HBX.out _ he3
  have hL := (HEE.out.eff he3 HGG.out (fun k hk => by subst hk; exact hpB)).l
  unfold errV at hL
  have hq := err_same (EA 3) w2
  have HE1 := Lib.hid (HE0.out.trans he3 (fun _ h _ => h))
  have HR3 := Lib.hid hr2
  clear he2 hr2 h1 HBX HO C2 he3
  go_wp2
  go_ret
  exact ⟨rfl, HR3.out, HE1.out⟩

end Go.Proofs.YtmmflhippbegaaaDoor

/- shorts (printed by wip/gen_back.py). -/
namespace Go.Proofs.YtmmflhippbegaaaDoor
set_option linter.unusedVariables false
open Go.ChangeShapes Go.WideShapes Go.ChangeAt Go.RowKit

/-- What shorts answers and leaves, where the value's bytes are cut. -/
def ShortOut (w : World) (p : Nat) (e : Ending) (w' : World) : Prop := e = .returned (.bool true) ∧ Eff (· = p) w w'
theorem getB_nil {x : UInt8} {j : Nat} (h : j < [x].length) : getB ([x].take j) = .error 1 := by
  obtain rfl : j = 0 := by simp at h; omega
  rfl

set_option maxRecDepth 100000 in
set_option maxHeartbeats 1000000 in
theorem short_byte (w : World) (B0 p : Nat) (v : Value) (bs : List UInt8) (h : Rdr w B0 p v bs 0) (hB : B0 ≤ w.heap.size) (EA : Nat → Addr) (hE : RErr w EA) (hG : GLow B0) (sec b s l : Value) (n u i : Int) (hn0 : -9223372036854775808 ≤ n) (hn1 : n ≤ 9223372036854775807) (j : Nat) (hk : j < ([UInt8.ofNat (n % 256).toNat]).length) (ht : bs = ([UInt8.ofNat (n % 256).toNat]).take j) :
    Calls Tryd.prog 47 #[.pointer (some ⟨p, 0, none⟩), .agg #[.int .i64 1, sec, .int .i64 n, .int .u64 u, .int .i64 i, b, s, l]] w (ShortOut w p) := by
  obtain ⟨o, ho⟩ : ∃ o, o = Obj.cells #[.int .i64 1, sec, .int .i64 n, .int .u64 u, .int .i64 i, b, s, l] 46 := ⟨_, rfl⟩
  have he0 : Eff (· = p) w (w.alloc o) := (Eff.refl _ _).alloc _
  have h0 : Rdr (w.alloc o) B0 p v bs 0 := h.eff (F := fun _ => False) ((Eff.refl _ _).alloc _) (fun _ _ f => f)
  have hE0 : RErr (w.alloc o) EA := hE.eff ((Eff.refl (fun _ => False) _).alloc _) hG (fun _ f => f.elim)
  have hB0 : B0 ≤ (w.alloc o).heap.size := by simp; omega
  have hnb : ¬ w.heap.size = p := fun e => by have := (h.ge p (.inl rfl)).2; omega
  have hpB := h.hp
  have hbx : (w.alloc o).heap[w.heap.size]? = some o := heap_alloc_new w _
  have BX : ∀ w1, Eff (· = p) (w.alloc o) w1 → Cells8 w1 w.heap.size (.int .i64 1) sec (.int .i64 n) (.int .u64 u) (.int .i64 i) b s l := fun w1 he => by
    have h1 := he.block w.heap.size (by simp) hnb
    rw [hbx, ho] at h1
    exact Cells8.of h1
  have C1 := rbyte_out _ B0 p v bs 0 h0 EA hE0
  have hres : getB (bs.drop 0) = .error 1 := by rw [List.drop_zero, ht]; exact getB_nil hk
  have HE0 := Lib.hid he0
  have HBX := Lib.hid BX
  have HR := Lib.hid hres
  have HEE := Lib.hid hE0
  have HGG := Lib.hid hG
  rw [ho] at C1
  have HO := Lib.hid ho
  clear BX hbx hnb hB0 hE0 h0 he0 ho hres ht hE hG h
  go_enter Tryd.func47, Tryd.ntmps47
  go_wp2_with fail
  refine C1.mono ?_
  rintro e w1 ⟨h1, _⟩
  obtain ⟨rfl, hr1, he1⟩ := h1 _ HR.out
  rw [← HO.out] at he1
  have hS := (HEE.out.eff he1 HGG.out (fun k hk => by subst hk; exact hpB)).s
  unfold errV at hS
  have hq := err_same (EA 1) w1
  have HE1 := Lib.hid (HE0.out.trans he1 (fun _ h _ => h))
  have C2 := rat_any w1 B0 p v bs 0 hr1
  clear he1 hr1 h1 HBX HO C1
  unfold errV
  go_wp2_with fail
  refine C2.mono ?_
  rintro e w2 ⟨rfl, rfl⟩
  go_wp2
  go_ret
  exact ⟨rfl, HE1.out⟩

set_option maxRecDepth 100000 in
set_option maxHeartbeats 1000000 in
theorem short_uv (w : World) (B0 p : Nat) (v : Value) (bs : List UInt8) (h : Rdr w B0 p v bs 0) (hB : B0 ≤ w.heap.size) (EA : Nat → Addr) (hE : RErr w EA) (hG : GLow B0) (sec b s l : Value) (n u i : Int) (m : Nat) (hm : (m : Int) ≤ 18446744073709551615) (j : Nat) (hk : j < (uvar m).length) (ht : bs = (uvar m).take j) :
    Calls Tryd.prog 47 #[.pointer (some ⟨p, 0, none⟩), .agg #[.int .i64 2, sec, .int .i64 n, .int .u64 m, .int .i64 i, b, s, l]] w (ShortOut w p) := by
  obtain ⟨o, ho⟩ : ∃ o, o = Obj.cells #[.int .i64 2, sec, .int .i64 n, .int .u64 m, .int .i64 i, b, s, l] 46 := ⟨_, rfl⟩
  have he0 : Eff (· = p) w (w.alloc o) := (Eff.refl _ _).alloc _
  have h0 : Rdr (w.alloc o) B0 p v bs 0 := h.eff (F := fun _ => False) ((Eff.refl _ _).alloc _) (fun _ _ f => f)
  have hE0 : RErr (w.alloc o) EA := hE.eff ((Eff.refl (fun _ => False) _).alloc _) hG (fun _ f => f.elim)
  have hB0 : B0 ≤ (w.alloc o).heap.size := by simp; omega
  have hnb : ¬ w.heap.size = p := fun e => by have := (h.ge p (.inl rfl)).2; omega
  have hpB := h.hp
  have hbx : (w.alloc o).heap[w.heap.size]? = some o := heap_alloc_new w _
  have BX : ∀ w1, Eff (· = p) (w.alloc o) w1 → Cells8 w1 w.heap.size (.int .i64 2) sec (.int .i64 n) (.int .u64 m) (.int .i64 i) b s l := fun w1 he => by
    have h1 := he.block w.heap.size (by simp) hnb
    rw [hbx, ho] at h1
    exact Cells8.of h1
  have C1 := ruv_out _ B0 p v bs 0 h0 EA hE0
  have hres : getU (bs.drop 0) = .error 1 := by rw [List.drop_zero, ht]; exact getU_cut m j (by omega) hk
  have HE0 := Lib.hid he0
  have HBX := Lib.hid BX
  have HR := Lib.hid hres
  have HEE := Lib.hid hE0
  have HGG := Lib.hid hG
  rw [ho] at C1
  have HO := Lib.hid ho
  clear BX hbx hnb hB0 hE0 h0 he0 ho hres ht hE hG h
  go_enter Tryd.func47, Tryd.ntmps47
  go_wp2_with fail
  refine C1.mono ?_
  rintro e w1 ⟨h1, _⟩
  obtain ⟨rfl, hr1, he1⟩ := h1 _ HR.out
  rw [← HO.out] at he1
  have hS := (HEE.out.eff he1 HGG.out (fun k hk => by subst hk; exact hpB)).s
  unfold errV at hS
  have hq := err_same (EA 1) w1
  have HE1 := Lib.hid (HE0.out.trans he1 (fun _ h _ => h))
  have C2 := rat_any w1 B0 p v bs 0 hr1
  clear he1 hr1 h1 HBX HO C1
  unfold errV
  go_wp2_with fail
  refine C2.mono ?_
  rintro e w2 ⟨rfl, rfl⟩
  go_wp2
  go_ret
  exact ⟨rfl, HE1.out⟩

set_option maxRecDepth 100000 in
set_option maxHeartbeats 1000000 in
theorem short_var (w : World) (B0 p : Nat) (v : Value) (bs : List UInt8) (h : Rdr w B0 p v bs 0) (hB : B0 ≤ w.heap.size) (EA : Nat → Addr) (hE : RErr w EA) (hG : GLow B0) (sec b s l : Value) (n u i : Int) (hi0 : -9223372036854775808 ≤ i) (hi1 : i ≤ 9223372036854775807) (j : Nat) (hk : j < (uvar (zigI i).toNat).length) (ht : bs = (uvar (zigI i).toNat).take j) :
    Calls Tryd.prog 47 #[.pointer (some ⟨p, 0, none⟩), .agg #[.int .i64 3, sec, .int .i64 n, .int .u64 u, .int .i64 i, b, s, l]] w (ShortOut w p) := by
  obtain ⟨o, ho⟩ : ∃ o, o = Obj.cells #[.int .i64 3, sec, .int .i64 n, .int .u64 u, .int .i64 i, b, s, l] 46 := ⟨_, rfl⟩
  have he0 : Eff (· = p) w (w.alloc o) := (Eff.refl _ _).alloc _
  have h0 : Rdr (w.alloc o) B0 p v bs 0 := h.eff (F := fun _ => False) ((Eff.refl _ _).alloc _) (fun _ _ f => f)
  have hE0 : RErr (w.alloc o) EA := hE.eff ((Eff.refl (fun _ => False) _).alloc _) hG (fun _ f => f.elim)
  have hB0 : B0 ≤ (w.alloc o).heap.size := by simp; omega
  have hnb : ¬ w.heap.size = p := fun e => by have := (h.ge p (.inl rfl)).2; omega
  have hpB := h.hp
  have hbx : (w.alloc o).heap[w.heap.size]? = some o := heap_alloc_new w _
  have BX : ∀ w1, Eff (· = p) (w.alloc o) w1 → Cells8 w1 w.heap.size (.int .i64 3) sec (.int .i64 n) (.int .u64 u) (.int .i64 i) b s l := fun w1 he => by
    have h1 := he.block w.heap.size (by simp) hnb
    rw [hbx, ho] at h1
    exact Cells8.of h1
  have C1 := rvar_out _ B0 p v bs 0 h0 EA hE0
  have hres : getU (bs.drop 0) = .error 1 := by rw [List.drop_zero, ht]; exact getU_cut _ j (by have := zigI_bd i hi0 hi1; omega) hk
  have HE0 := Lib.hid he0
  have HBX := Lib.hid BX
  have HR := Lib.hid hres
  have HEE := Lib.hid hE0
  have HGG := Lib.hid hG
  rw [ho] at C1
  have HO := Lib.hid ho
  clear BX hbx hnb hB0 hE0 h0 he0 ho hres ht hE hG h
  go_enter Tryd.func47, Tryd.ntmps47
  go_wp2_with fail
  refine C1.mono ?_
  rintro e w1 ⟨h1, _⟩
  obtain ⟨rfl, hr1, he1⟩ := h1 _ HR.out
  rw [← HO.out] at he1
  have hS := (HEE.out.eff he1 HGG.out (fun k hk => by subst hk; exact hpB)).s
  unfold errV at hS
  have hq := err_same (EA 1) w1
  have HE1 := Lib.hid (HE0.out.trans he1 (fun _ h _ => h))
  have C2 := rat_any w1 B0 p v bs 0 hr1
  clear he1 hr1 h1 HBX HO C1
  unfold errV
  go_wp2_with fail
  refine C2.mono ?_
  rintro e w2 ⟨rfl, rfl⟩
  go_wp2
  go_ret
  exact ⟨rfl, HE1.out⟩

set_option maxRecDepth 100000 in
set_option maxHeartbeats 1000000 in
theorem short_w32 (w : World) (B0 p : Nat) (v : Value) (bs : List UInt8) (h : Rdr w B0 p v bs 0) (hB : B0 ≤ w.heap.size) (EA : Nat → Addr) (hE : RErr w EA) (hG : GLow B0) (sec b s l : Value) (n u i : Int) (m : Nat) (hm : (m : Int) ≤ 18446744073709551615) (j : Nat) (hk : j < (leB 4 (m % 4294967296)).length) (ht : bs = (leB 4 (m % 4294967296)).take j) :
    Calls Tryd.prog 47 #[.pointer (some ⟨p, 0, none⟩), .agg #[.int .i64 4, sec, .int .i64 n, .int .u64 m, .int .i64 i, b, s, l]] w (ShortOut w p) := by
  obtain ⟨o, ho⟩ : ∃ o, o = Obj.cells #[.int .i64 4, sec, .int .i64 n, .int .u64 m, .int .i64 i, b, s, l] 46 := ⟨_, rfl⟩
  have he0 : Eff (· = p) w (w.alloc o) := (Eff.refl _ _).alloc _
  have h0 : Rdr (w.alloc o) B0 p v bs 0 := h.eff (F := fun _ => False) ((Eff.refl _ _).alloc _) (fun _ _ f => f)
  have hE0 : RErr (w.alloc o) EA := hE.eff ((Eff.refl (fun _ => False) _).alloc _) hG (fun _ f => f.elim)
  have hB0 : B0 ≤ (w.alloc o).heap.size := by simp; omega
  have hnb : ¬ w.heap.size = p := fun e => by have := (h.ge p (.inl rfl)).2; omega
  have hpB := h.hp
  have hbx : (w.alloc o).heap[w.heap.size]? = some o := heap_alloc_new w _
  have BX : ∀ w1, Eff (· = p) (w.alloc o) w1 → Cells8 w1 w.heap.size (.int .i64 4) sec (.int .i64 n) (.int .u64 m) (.int .i64 i) b s l := fun w1 he => by
    have h1 := he.block w.heap.size (by simp) hnb
    rw [hbx, ho] at h1
    exact Cells8.of h1
  have C1 := r32_out _ B0 p v bs 0 h0 EA hE0
  have hres : getW 4 (bs.drop 0) = .error 1 := by rw [List.drop_zero, ht]; exact gc_w 4 _ j (by rw [leB_length] at hk; exact hk)
  have HE0 := Lib.hid he0
  have HBX := Lib.hid BX
  have HR := Lib.hid hres
  have HEE := Lib.hid hE0
  have HGG := Lib.hid hG
  rw [ho] at C1
  have HO := Lib.hid ho
  clear BX hbx hnb hB0 hE0 h0 he0 ho hres ht hE hG h
  go_enter Tryd.func47, Tryd.ntmps47
  go_wp2_with fail
  refine C1.mono ?_
  rintro e w1 ⟨h1, _⟩
  obtain ⟨rfl, hr1, he1⟩ := h1 _ HR.out
  rw [← HO.out] at he1
  have hS := (HEE.out.eff he1 HGG.out (fun k hk => by subst hk; exact hpB)).s
  unfold errV at hS
  have hq := err_same (EA 1) w1
  have HE1 := Lib.hid (HE0.out.trans he1 (fun _ h _ => h))
  have C2 := rat_any w1 B0 p v bs 0 hr1
  clear he1 hr1 h1 HBX HO C1
  unfold errV
  go_wp2_with fail
  refine C2.mono ?_
  rintro e w2 ⟨rfl, rfl⟩
  go_wp2
  go_ret
  exact ⟨rfl, HE1.out⟩

set_option maxRecDepth 100000 in
set_option maxHeartbeats 1000000 in
theorem short_w64 (w : World) (B0 p : Nat) (v : Value) (bs : List UInt8) (h : Rdr w B0 p v bs 0) (hB : B0 ≤ w.heap.size) (EA : Nat → Addr) (hE : RErr w EA) (hG : GLow B0) (sec b s l : Value) (n u i : Int) (m : Nat) (hm : (m : Int) ≤ 18446744073709551615) (j : Nat) (hk : j < (leB 8 m).length) (ht : bs = (leB 8 m).take j) :
    Calls Tryd.prog 47 #[.pointer (some ⟨p, 0, none⟩), .agg #[.int .i64 5, sec, .int .i64 n, .int .u64 m, .int .i64 i, b, s, l]] w (ShortOut w p) := by
  obtain ⟨o, ho⟩ : ∃ o, o = Obj.cells #[.int .i64 5, sec, .int .i64 n, .int .u64 m, .int .i64 i, b, s, l] 46 := ⟨_, rfl⟩
  have he0 : Eff (· = p) w (w.alloc o) := (Eff.refl _ _).alloc _
  have h0 : Rdr (w.alloc o) B0 p v bs 0 := h.eff (F := fun _ => False) ((Eff.refl _ _).alloc _) (fun _ _ f => f)
  have hE0 : RErr (w.alloc o) EA := hE.eff ((Eff.refl (fun _ => False) _).alloc _) hG (fun _ f => f.elim)
  have hB0 : B0 ≤ (w.alloc o).heap.size := by simp; omega
  have hnb : ¬ w.heap.size = p := fun e => by have := (h.ge p (.inl rfl)).2; omega
  have hpB := h.hp
  have hbx : (w.alloc o).heap[w.heap.size]? = some o := heap_alloc_new w _
  have BX : ∀ w1, Eff (· = p) (w.alloc o) w1 → Cells8 w1 w.heap.size (.int .i64 5) sec (.int .i64 n) (.int .u64 m) (.int .i64 i) b s l := fun w1 he => by
    have h1 := he.block w.heap.size (by simp) hnb
    rw [hbx, ho] at h1
    exact Cells8.of h1
  have C1 := r64_out _ B0 p v bs 0 h0 EA hE0
  have hres : getW 8 (bs.drop 0) = .error 1 := by rw [List.drop_zero, ht]; exact gc_w 8 _ j (by rw [leB_length] at hk; exact hk)
  have HE0 := Lib.hid he0
  have HBX := Lib.hid BX
  have HR := Lib.hid hres
  have HEE := Lib.hid hE0
  have HGG := Lib.hid hG
  rw [ho] at C1
  have HO := Lib.hid ho
  clear BX hbx hnb hB0 hE0 h0 he0 ho hres ht hE hG h
  go_enter Tryd.func47, Tryd.ntmps47
  go_wp2_with fail
  refine C1.mono ?_
  rintro e w1 ⟨h1, _⟩
  obtain ⟨rfl, hr1, he1⟩ := h1 _ HR.out
  rw [← HO.out] at he1
  have hS := (HEE.out.eff he1 HGG.out (fun k hk => by subst hk; exact hpB)).s
  unfold errV at hS
  have hq := err_same (EA 1) w1
  have HE1 := Lib.hid (HE0.out.trans he1 (fun _ h _ => h))
  have C2 := rat_any w1 B0 p v bs 0 hr1
  clear he1 hr1 h1 HBX HO C1
  unfold errV
  go_wp2_with fail
  refine C2.mono ?_
  rintro e w2 ⟨rfl, rfl⟩
  go_wp2
  go_ret
  exact ⟨rfl, HE1.out⟩

set_option maxRecDepth 100000 in
set_option maxHeartbeats 1000000 in
theorem short_raw (w : World) (B0 p : Nat) (v : Value) (bs : List UInt8) (h : Rdr w B0 p v bs 0) (hB : B0 ≤ w.heap.size) (EA : Nat → Addr) (hE : RErr w EA) (hG : GLow B0) (sec b s l : Value) (n u i : Int) (ba : Option Addr) (bn bc : Nat) (cs : List UInt8) (hrd : Rd w (.slice ba bn bc) (bytesV cs)) (hcs : cs.length ≤ 1000000000) (hlow : 0 < cs.length → ∀ b o, ba = some ⟨b, o, none⟩ → b < B0) (j : Nat) (hk : j < (cs).length) (ht : bs = (cs).take j) :
    Calls Tryd.prog 47 #[.pointer (some ⟨p, 0, none⟩), .agg #[.int .i64 6, sec, .int .i64 n, .int .u64 u, .int .i64 i, .slice ba bn bc, s, l]] w (ShortOut w p) := by
  obtain ⟨o, ho⟩ : ∃ o, o = Obj.cells #[.int .i64 6, sec, .int .i64 n, .int .u64 u, .int .i64 i, .slice ba bn bc, s, l] 46 := ⟨_, rfl⟩
  have he0 : Eff (· = p) w (w.alloc o) := (Eff.refl _ _).alloc _
  have h0 : Rdr (w.alloc o) B0 p v bs 0 := h.eff (F := fun _ => False) ((Eff.refl _ _).alloc _) (fun _ _ f => f)
  have hE0 : RErr (w.alloc o) EA := hE.eff ((Eff.refl (fun _ => False) _).alloc _) hG (fun _ f => f.elim)
  have hB0 : B0 ≤ (w.alloc o).heap.size := by simp; omega
  have hnb : ¬ w.heap.size = p := fun e => by have := (h.ge p (.inl rfl)).2; omega
  have hpB := h.hp
  have hbx : (w.alloc o).heap[w.heap.size]? = some o := heap_alloc_new w _
  have BX : ∀ w1, Eff (· = p) (w.alloc o) w1 → Cells8 w1 w.heap.size (.int .i64 6) sec (.int .i64 n) (.int .u64 u) (.int .i64 i) (.slice ba bn bc) s l := fun w1 he => by
    have h1 := he.block w.heap.size (by simp) hnb
    rw [hbx, ho] at h1
    exact Cells8.of h1
  have C1 := rraw_any _ B0 p v bs 0 h0 EA hE0 cs.length (by omega) (by omega)
  have hres : getRaw cs.length (bs.drop 0) = .error 1 := by rw [List.drop_zero, ht]; exact gc_raw cs j hk
  have hn1 : bn = cs.length := by obtain ⟨A, c, e, _⟩ := hrd; injection e with _ e _; rw [e, bytesV_length]
  subst hn1
  have HE0 := Lib.hid he0
  have HBX := Lib.hid BX
  have HR := Lib.hid hres
  have HEE := Lib.hid hE0
  have HGG := Lib.hid hG
  rw [ho] at C1
  have HO := Lib.hid ho
  clear BX hbx hnb hB0 hE0 h0 he0 ho hres ht hE hG h hrd hlow
  go_enter Tryd.func47, Tryd.ntmps47
  go_wp2_with fail
  refine C1.mono ?_
  rintro e w1 ⟨h1, _⟩
  obtain ⟨rfl, hr1, he1⟩ := h1 _ HR.out
  rw [← HO.out] at he1
  have hS := (HEE.out.eff he1 HGG.out (fun k hk => by subst hk; exact hpB)).s
  unfold errV at hS
  have hq := err_same (EA 1) w1
  have HE1 := Lib.hid (HE0.out.trans he1 (fun _ h _ => h))
  have C2 := rat_any w1 B0 p v bs 0 hr1
  clear he1 hr1 h1 HBX HO C1
  unfold errV
  go_wp2_with fail
  refine C2.mono ?_
  rintro e w2 ⟨rfl, rfl⟩
  go_wp2
  go_ret
  exact ⟨rfl, HE1.out⟩

set_option maxRecDepth 100000 in
set_option maxHeartbeats 1000000 in
theorem short_text (w : World) (B0 p : Nat) (v : Value) (bs : List UInt8) (h : Rdr w B0 p v bs 0) (hB : B0 ≤ w.heap.size) (EA : Nat → Addr) (hE : RErr w EA) (hG : GLow B0) (sec b s l : Value) (n u i : Int) (sb : ByteArray) (hsb : sb.size ≤ 1000000000) (j : Nat) (hk : j < ((uvar sb.size ++ sb.data.toList)).length) (ht : bs = ((uvar sb.size ++ sb.data.toList)).take j) :
    Calls Tryd.prog 47 #[.pointer (some ⟨p, 0, none⟩), .agg #[.int .i64 7, sec, .int .i64 n, .int .u64 u, .int .i64 i, b, .string sb, l]] w (ShortOut w p) := by
  obtain ⟨o, ho⟩ : ∃ o, o = Obj.cells #[.int .i64 7, sec, .int .i64 n, .int .u64 u, .int .i64 i, b, .string sb, l] 46 := ⟨_, rfl⟩
  have he0 : Eff (· = p) w (w.alloc o) := (Eff.refl _ _).alloc _
  have h0 : Rdr (w.alloc o) B0 p v bs 0 := h.eff (F := fun _ => False) ((Eff.refl _ _).alloc _) (fun _ _ f => f)
  have hE0 : RErr (w.alloc o) EA := hE.eff ((Eff.refl (fun _ => False) _).alloc _) hG (fun _ f => f.elim)
  have hB0 : B0 ≤ (w.alloc o).heap.size := by simp; omega
  have hnb : ¬ w.heap.size = p := fun e => by have := (h.ge p (.inl rfl)).2; omega
  have hpB := h.hp
  have hbx : (w.alloc o).heap[w.heap.size]? = some o := heap_alloc_new w _
  have BX : ∀ w1, Eff (· = p) (w.alloc o) w1 → Cells8 w1 w.heap.size (.int .i64 7) sec (.int .i64 n) (.int .u64 u) (.int .i64 i) b (.string sb) l := fun w1 he => by
    have h1 := he.block w.heap.size (by simp) hnb
    rw [hbx, ho] at h1
    exact Cells8.of h1
  have C1 := rtext_any _ B0 p v bs 0 h0 EA hE0 hG sb.size (by omega) (by omega)
  have hres : getText sb.size (bs.drop 0) = .error 1 := by rw [List.drop_zero, ht]; exact gct sb j (by omega) hk
  have HE0 := Lib.hid he0
  have HBX := Lib.hid BX
  have HR := Lib.hid hres
  have HEE := Lib.hid hE0
  have HGG := Lib.hid hG
  rw [ho] at C1
  have HO := Lib.hid ho
  clear BX hbx hnb hB0 hE0 h0 he0 ho hres ht hE hG h
  go_enter Tryd.func47, Tryd.ntmps47
  go_wp2_with fail
  refine C1.mono ?_
  rintro e w1 ⟨h1, _⟩
  obtain ⟨rfl, hr1, he1⟩ := h1 _ HR.out
  rw [← HO.out] at he1
  have hS := (HEE.out.eff he1 HGG.out (fun k hk => by subst hk; exact hpB)).s
  unfold errV at hS
  have hq := err_same (EA 1) w1
  have HE1 := Lib.hid (HE0.out.trans he1 (fun _ h _ => h))
  have C2 := rat_any w1 B0 p v bs 0 hr1
  clear he1 hr1 h1 HBX HO C1
  unfold errV
  go_wp2_with fail
  refine C2.mono ?_
  rintro e w2 ⟨rfl, rfl⟩
  go_wp2
  go_ret
  exact ⟨rfl, HE1.out⟩

set_option maxRecDepth 100000 in
set_option maxHeartbeats 1000000 in
theorem short_ris (w : World) (B0 p : Nat) (v : Value) (bs : List UInt8) (h : Rdr w B0 p v bs 0) (hB : B0 ≤ w.heap.size) (EA : Nat → Addr) (hE : RErr w EA) (hG : GLow B0) (sec b s l : Value) (n u i : Int) (la : Option Addr) (ln lc : Nat) (ls : List Int) (hrd : Rd w (.slice la ln lc) (intL ls)) (hll : ls.length ≤ 1000000000) (hf : FitL ls) (hok : anyNeg ls = false ∧ rises ls) (hlow : 0 < ls.length → ∀ b o, la = some ⟨b, o, none⟩ → b < B0) (j : Nat) (hk : j < (risB ls).length) (ht : bs = (risB ls).take j) :
    Calls Tryd.prog 47 #[.pointer (some ⟨p, 0, none⟩), .agg #[.int .i64 8, sec, .int .i64 n, .int .u64 u, .int .i64 i, b, s, .slice la ln lc]] w (ShortOut w p) := by
  obtain ⟨o, ho⟩ : ∃ o, o = Obj.cells #[.int .i64 8, sec, .int .i64 n, .int .u64 u, .int .i64 i, b, s, .slice la ln lc] 46 := ⟨_, rfl⟩
  have he0 : Eff (· = p) w (w.alloc o) := (Eff.refl _ _).alloc _
  have h0 : Rdr (w.alloc o) B0 p v bs 0 := h.eff (F := fun _ => False) ((Eff.refl _ _).alloc _) (fun _ _ f => f)
  have hE0 : RErr (w.alloc o) EA := hE.eff ((Eff.refl (fun _ => False) _).alloc _) hG (fun _ f => f.elim)
  have hB0 : B0 ≤ (w.alloc o).heap.size := by simp; omega
  have hnb : ¬ w.heap.size = p := fun e => by have := (h.ge p (.inl rfl)).2; omega
  have hpB := h.hp
  have hbx : (w.alloc o).heap[w.heap.size]? = some o := heap_alloc_new w _
  have BX : ∀ w1, Eff (· = p) (w.alloc o) w1 → Cells8 w1 w.heap.size (.int .i64 8) sec (.int .i64 n) (.int .u64 u) (.int .i64 i) b s (.slice la ln lc) := fun w1 he => by
    have h1 := he.block w.heap.size (by simp) hnb
    rw [hbx, ho] at h1
    exact Cells8.of h1
  have C1 := rris_out _ B0 p v bs 0 h0 hB0 EA hE0 hG ls.length (by omega) (by omega)
  have hres : getRis ls.length (bs.drop 0) = .error 1 := by rw [List.drop_zero, ht]; exact gc_ris hok.1 hok.2 hf (by omega) j hk
  have hn1 : ln = ls.length := by obtain ⟨A, c, e, _⟩ := hrd; injection e with _ e _; rw [e, intL_length]
  subst hn1
  have HE0 := Lib.hid he0
  have HBX := Lib.hid BX
  have HR := Lib.hid hres
  have HEE := Lib.hid hE0
  have HGG := Lib.hid hG
  rw [ho] at C1
  have HO := Lib.hid ho
  clear BX hbx hnb hB0 hE0 h0 he0 ho hres ht hE hG h hrd hlow hf hok
  go_enter Tryd.func47, Tryd.ntmps47
  go_wp2_with fail
  refine C1.mono ?_
  rintro e w1 ⟨h1, _⟩
  obtain ⟨rfl, ⟨k', hk', hr1⟩, he1⟩ := h1 _ HR.out
  obtain rfl := hk' rfl
  rw [← HO.out] at he1
  have hS := (HEE.out.eff he1 HGG.out (fun k hk => by subst hk; exact hpB)).s
  unfold errV at hS
  have hq := err_same (EA 1) w1
  have HE1 := Lib.hid (HE0.out.trans he1 (fun _ h _ => h))
  have C2 := rat_any w1 B0 p v bs 0 hr1
  clear he1 hr1 h1 HBX HO C1
  unfold errV
  go_wp2_with fail
  refine C2.mono ?_
  rintro e w2 ⟨rfl, rfl⟩
  go_wp2
  go_ret
  exact ⟨rfl, HE1.out⟩

set_option maxRecDepth 100000 in
set_option maxHeartbeats 1000000 in
theorem short_pck (w : World) (B0 p : Nat) (v : Value) (bs : List UInt8) (h : Rdr w B0 p v bs 0) (hB : B0 ≤ w.heap.size) (EA : Nat → Addr) (hE : RErr w EA) (hG : GLow B0) (sec b s l : Value) (n u i : Int) (la : Option Addr) (ln lc : Nat) (ls : List Int) (hrd : Rd w (.slice la ln lc) (intL ls)) (hll : ls.length ≤ 1000000000) (hf : FitL ls) (hok : okPck ls) (hlow : 0 < ls.length → ∀ b o, la = some ⟨b, o, none⟩ → b < B0) (j : Nat) (hk : j < (pckB (natOf ls)).length) (ht : bs = (pckB (natOf ls)).take j) :
    Calls Tryd.prog 47 #[.pointer (some ⟨p, 0, none⟩), .agg #[.int .i64 9, sec, .int .i64 n, .int .u64 u, .int .i64 i, b, s, .slice la ln lc]] w (ShortOut w p) := by
  obtain ⟨o, ho⟩ : ∃ o, o = Obj.cells #[.int .i64 9, sec, .int .i64 n, .int .u64 u, .int .i64 i, b, s, .slice la ln lc] 46 := ⟨_, rfl⟩
  have he0 : Eff (· = p) w (w.alloc o) := (Eff.refl _ _).alloc _
  have h0 : Rdr (w.alloc o) B0 p v bs 0 := h.eff (F := fun _ => False) ((Eff.refl _ _).alloc _) (fun _ _ f => f)
  have hE0 : RErr (w.alloc o) EA := hE.eff ((Eff.refl (fun _ => False) _).alloc _) hG (fun _ f => f.elim)
  have hB0 : B0 ≤ (w.alloc o).heap.size := by simp; omega
  have hnb : ¬ w.heap.size = p := fun e => by have := (h.ge p (.inl rfl)).2; omega
  have hpB := h.hp
  have hbx : (w.alloc o).heap[w.heap.size]? = some o := heap_alloc_new w _
  have BX : ∀ w1, Eff (· = p) (w.alloc o) w1 → Cells8 w1 w.heap.size (.int .i64 9) sec (.int .i64 n) (.int .u64 u) (.int .i64 i) b s (.slice la ln lc) := fun w1 he => by
    have h1 := he.block w.heap.size (by simp) hnb
    rw [hbx, ho] at h1
    exact Cells8.of h1
  have C1 := rpck_out _ B0 p v bs 0 h0 hB0 EA hE0 hG ls.length (by omega) (by omega)
  have hres : toI (getPk ls.length (bs.drop 0)) = .error 1 := by rw [List.drop_zero, ht]; exact gcp hok hf hll j hk
  have hn1 : ln = ls.length := by obtain ⟨A, c, e, _⟩ := hrd; injection e with _ e _; rw [e, intL_length]
  subst hn1
  have HE0 := Lib.hid he0
  have HBX := Lib.hid BX
  have HR := Lib.hid hres
  have HEE := Lib.hid hE0
  have HGG := Lib.hid hG
  rw [ho] at C1
  have HO := Lib.hid ho
  clear BX hbx hnb hB0 hE0 h0 he0 ho hres ht hE hG h hrd hlow hf hok
  go_enter Tryd.func47, Tryd.ntmps47
  go_wp2_with fail
  refine C1.mono ?_
  rintro e w1 ⟨h1, _⟩
  obtain ⟨rfl, ⟨k', hk', hr1⟩, he1⟩ := h1 _ HR.out
  obtain rfl := hk' rfl
  rw [← HO.out] at he1
  have hS := (HEE.out.eff he1 HGG.out (fun k hk => by subst hk; exact hpB)).s
  unfold errV at hS
  have hq := err_same (EA 1) w1
  have HE1 := Lib.hid (HE0.out.trans he1 (fun _ h _ => h))
  have C2 := rat_any w1 B0 p v bs 0 hr1
  clear he1 hr1 h1 HBX HO C1
  unfold errV
  go_wp2_with fail
  refine C2.mono ?_
  rintro e w2 ⟨rfl, rfl⟩
  go_wp2
  go_ret
  exact ⟨rfl, HE1.out⟩

set_option maxRecDepth 100000 in
set_option maxHeartbeats 1000000 in
theorem short_upto (w : World) (B0 p : Nat) (v : Value) (bs : List UInt8) (h : Rdr w B0 p v bs 0) (hB : B0 ≤ w.heap.size) (EA : Nat → Addr) (hE : RErr w EA) (hG : GLow B0) (sec b s l : Value) (n u i : Int) (m : Nat) (hm : (m : Int) ≤ 18446744073709551615) (j : Nat) (hk : j < (uvar m).length) (ht : bs = (uvar m).take j) :
    Calls Tryd.prog 47 #[.pointer (some ⟨p, 0, none⟩), .agg #[.int .i64 10, sec, .int .i64 n, .int .u64 m, .int .i64 i, b, s, l]] w (ShortOut w p) := by
  obtain ⟨o, ho⟩ : ∃ o, o = Obj.cells #[.int .i64 10, sec, .int .i64 n, .int .u64 m, .int .i64 i, b, s, l] 46 := ⟨_, rfl⟩
  have he0 : Eff (· = p) w (w.alloc o) := (Eff.refl _ _).alloc _
  have h0 : Rdr (w.alloc o) B0 p v bs 0 := h.eff (F := fun _ => False) ((Eff.refl _ _).alloc _) (fun _ _ f => f)
  have hE0 : RErr (w.alloc o) EA := hE.eff ((Eff.refl (fun _ => False) _).alloc _) hG (fun _ f => f.elim)
  have hB0 : B0 ≤ (w.alloc o).heap.size := by simp; omega
  have hnb : ¬ w.heap.size = p := fun e => by have := (h.ge p (.inl rfl)).2; omega
  have hpB := h.hp
  have hbx : (w.alloc o).heap[w.heap.size]? = some o := heap_alloc_new w _
  have BX : ∀ w1, Eff (· = p) (w.alloc o) w1 → Cells8 w1 w.heap.size (.int .i64 10) sec (.int .i64 n) (.int .u64 m) (.int .i64 i) b s l := fun w1 he => by
    have h1 := he.block w.heap.size (by simp) hnb
    rw [hbx, ho] at h1
    exact Cells8.of h1
  have C1 := rupto_out _ B0 p v bs 0 h0 EA hE0 hG 9223372036854775807 (by omega) (by omega)
  have hres : getUpto 9223372036854775807 (bs.drop 0) = .error 1 := by rw [List.drop_zero, ht]; exact gc_upto _ m j (by omega) hk
  have HE0 := Lib.hid he0
  have HBX := Lib.hid BX
  have HR := Lib.hid hres
  have HEE := Lib.hid hE0
  have HGG := Lib.hid hG
  rw [ho] at C1
  have HO := Lib.hid ho
  clear BX hbx hnb hB0 hE0 h0 he0 ho hres ht hE hG h
  go_enter Tryd.func47, Tryd.ntmps47
  go_wp2_with fail
  refine C1.mono ?_
  rintro e w1 ⟨h1, _⟩
  obtain ⟨rfl, hr1, he1⟩ := h1 _ HR.out
  rw [← HO.out] at he1
  have hS := (HEE.out.eff he1 HGG.out (fun k hk => by subst hk; exact hpB)).s
  unfold errV at hS
  have hq := err_same (EA 1) w1
  have HE1 := Lib.hid (HE0.out.trans he1 (fun _ h _ => h))
  have C2 := rat_any w1 B0 p v bs 0 hr1
  clear he1 hr1 h1 HBX HO C1
  unfold errV
  go_wp2_with fail
  refine C2.mono ?_
  rintro e w2 ⟨rfl, rfl⟩
  go_wp2
  go_ret
  exact ⟨rfl, HE1.out⟩

end Go.Proofs.YtmmflhippbegaaaDoor
