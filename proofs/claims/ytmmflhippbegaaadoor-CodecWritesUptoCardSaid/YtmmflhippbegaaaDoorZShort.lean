/- shorts (printed by wip/gen_back.py). -/
import Derived.Test.YtmmflhippbegaaaDoorZGetPut
import Derived.Test.YtmmflhippbegaaaDoorZAgain
import Derived.Test.YtmmflhippbegaaaDoorZPutL
import Derived.Test.YtmmflhippbegaaaDoorZSame
import Derived.Test.YtmmflhippbegaaaDoorZBackR
namespace Go.Proofs.YtmmflhippbegaaaDoor
set_option linter.unusedVariables false
open Go.ChangeShapes Go.WideShapes Go.ChangeAt Go.RowKit

/-- What shorts answers and leaves, where the value's bytes are cut. -/
def ShortOut (w : World) (p : Nat) (e : Ending) (w' : World) : Prop := e = .returned (.bool true) ∧ Eff (· = p) w w'
theorem getB_nil {x : UInt8} {j : Nat} (h : j < [x].length) : getB ([x].take j) = .error 1 := by
  obtain rfl : j = 0 := by simp at h; omega
  rfl

set_option maxRecDepth 100000 in
set_option maxHeartbeats 1000000 in
theorem short_byte (w : World) (B0 p : Nat) (v : Value) (bs : List UInt8) (h : Rdr w B0 p v bs 0) (hB : B0 ≤ w.heap.size) (EA : Nat → Addr) (hE : RErr w EA) (hG : GLow B0) (sec b s l : Value) (n u i : Int) (hn0 : -9223372036854775808 ≤ n) (hn1 : n ≤ 9223372036854775807) (j : Nat) (hk : j < ([UInt8.ofNat (n % 256).toNat]).length) (ht : bs = ([UInt8.ofNat (n % 256).toNat]).take j) :
    Calls Tryd.prog 47 #[.pointer (some ⟨p, 0, none⟩), .agg #[.int .i64 1, sec, .int .i64 n, .int .u64 u, .int .i64 i, b, s, l]] w (ShortOut w p) := by
  obtain ⟨o, ho⟩ : ∃ o, o = Obj.cells #[.int .i64 1, sec, .int .i64 n, .int .u64 u, .int .i64 i, b, s, l] 46 := ⟨_, rfl⟩
  have he0 : Eff (· = p) w (w.alloc o) := (Eff.refl _ _).alloc _
  have h0 : Rdr (w.alloc o) B0 p v bs 0 := h.eff (F := fun _ => False) ((Eff.refl _ _).alloc _) (fun _ _ f => f)
  have hE0 : RErr (w.alloc o) EA := hE.eff ((Eff.refl (fun _ => False) _).alloc _) hG (fun _ f => f.elim)
  have hB0 : B0 ≤ (w.alloc o).heap.size := by simp; omega
  have hnb : ¬ w.heap.size = p := fun e => by have := (h.ge p (.inl rfl)).2; omega
  have hpB := h.hp
  have hbx : (w.alloc o).heap[w.heap.size]? = some o := heap_alloc_new w _
  have BX : ∀ w1, Eff (· = p) (w.alloc o) w1 → Cells8 w1 w.heap.size (.int .i64 1) sec (.int .i64 n) (.int .u64 u) (.int .i64 i) b s l := fun w1 he => by
    have h1 := he.block w.heap.size (by simp) hnb
    rw [hbx, ho] at h1
    exact Cells8.of h1
  have C1 := rbyte_out _ B0 p v bs 0 h0 EA hE0
  have hres : getB (bs.drop 0) = .error 1 := by rw [List.drop_zero, ht]; exact getB_nil hk
  have HE0 := Lib.hid he0
  have HBX := Lib.hid BX
  have HR := Lib.hid hres
  have HEE := Lib.hid hE0
  have HGG := Lib.hid hG
  rw [ho] at C1
  have HO := Lib.hid ho
  clear BX hbx hnb hB0 hE0 h0 he0 ho hres ht hE hG h
  go_enter Tryd.func47, Tryd.ntmps47
  go_wp2_with fail
  refine C1.mono ?_
  rintro e w1 ⟨h1, _⟩
  obtain ⟨rfl, hr1, he1⟩ := h1 _ HR.out
  rw [← HO.out] at he1
  have hS := (HEE.out.eff he1 HGG.out (fun k hk => by subst hk; exact hpB)).s
  unfold errV at hS
  have hq := err_same (EA 1) w1
  have HE1 := Lib.hid (HE0.out.trans he1 (fun _ h _ => h))
  have C2 := rat_any w1 B0 p v bs 0 hr1
  clear he1 hr1 h1 HBX HO C1
  unfold errV
  go_wp2_with fail
  refine C2.mono ?_
  rintro e w2 ⟨rfl, rfl⟩
  go_wp2
  go_ret
  exact ⟨rfl, HE1.out⟩

set_option maxRecDepth 100000 in
set_option maxHeartbeats 1000000 in
theorem short_uv (w : World) (B0 p : Nat) (v : Value) (bs : List UInt8) (h : Rdr w B0 p v bs 0) (hB : B0 ≤ w.heap.size) (EA : Nat → Addr) (hE : RErr w EA) (hG : GLow B0) (sec b s l : Value) (n u i : Int) (m : Nat) (hm : (m : Int) ≤ 18446744073709551615) (j : Nat) (hk : j < (uvar m).length) (ht : bs = (uvar m).take j) :
    Calls Tryd.prog 47 #[.pointer (some ⟨p, 0, none⟩), .agg #[.int .i64 2, sec, .int .i64 n, .int .u64 m, .int .i64 i, b, s, l]] w (ShortOut w p) := by
  obtain ⟨o, ho⟩ : ∃ o, o = Obj.cells #[.int .i64 2, sec, .int .i64 n, .int .u64 m, .int .i64 i, b, s, l] 46 := ⟨_, rfl⟩
  have he0 : Eff (· = p) w (w.alloc o) := (Eff.refl _ _).alloc _
  have h0 : Rdr (w.alloc o) B0 p v bs 0 := h.eff (F := fun _ => False) ((Eff.refl _ _).alloc _) (fun _ _ f => f)
  have hE0 : RErr (w.alloc o) EA := hE.eff ((Eff.refl (fun _ => False) _).alloc _) hG (fun _ f => f.elim)
  have hB0 : B0 ≤ (w.alloc o).heap.size := by simp; omega
  have hnb : ¬ w.heap.size = p := fun e => by have := (h.ge p (.inl rfl)).2; omega
  have hpB := h.hp
  have hbx : (w.alloc o).heap[w.heap.size]? = some o := heap_alloc_new w _
  have BX : ∀ w1, Eff (· = p) (w.alloc o) w1 → Cells8 w1 w.heap.size (.int .i64 2) sec (.int .i64 n) (.int .u64 m) (.int .i64 i) b s l := fun w1 he => by
    have h1 := he.block w.heap.size (by simp) hnb
    rw [hbx, ho] at h1
    exact Cells8.of h1
  have C1 := ruv_out _ B0 p v bs 0 h0 EA hE0
  have hres : getU (bs.drop 0) = .error 1 := by rw [List.drop_zero, ht]; exact getU_cut m j (by omega) hk
  have HE0 := Lib.hid he0
  have HBX := Lib.hid BX
  have HR := Lib.hid hres
  have HEE := Lib.hid hE0
  have HGG := Lib.hid hG
  rw [ho] at C1
  have HO := Lib.hid ho
  clear BX hbx hnb hB0 hE0 h0 he0 ho hres ht hE hG h
  go_enter Tryd.func47, Tryd.ntmps47
  go_wp2_with fail
  refine C1.mono ?_
  rintro e w1 ⟨h1, _⟩
  obtain ⟨rfl, hr1, he1⟩ := h1 _ HR.out
  rw [← HO.out] at he1
  have hS := (HEE.out.eff he1 HGG.out (fun k hk => by subst hk; exact hpB)).s
  unfold errV at hS
  have hq := err_same (EA 1) w1
  have HE1 := Lib.hid (HE0.out.trans he1 (fun _ h _ => h))
  have C2 := rat_any w1 B0 p v bs 0 hr1
  clear he1 hr1 h1 HBX HO C1
  unfold errV
  go_wp2_with fail
  refine C2.mono ?_
  rintro e w2 ⟨rfl, rfl⟩
  go_wp2
  go_ret
  exact ⟨rfl, HE1.out⟩

set_option maxRecDepth 100000 in
set_option maxHeartbeats 1000000 in
theorem short_var (w : World) (B0 p : Nat) (v : Value) (bs : List UInt8) (h : Rdr w B0 p v bs 0) (hB : B0 ≤ w.heap.size) (EA : Nat → Addr) (hE : RErr w EA) (hG : GLow B0) (sec b s l : Value) (n u i : Int) (hi0 : -9223372036854775808 ≤ i) (hi1 : i ≤ 9223372036854775807) (j : Nat) (hk : j < (uvar (zigI i).toNat).length) (ht : bs = (uvar (zigI i).toNat).take j) :
    Calls Tryd.prog 47 #[.pointer (some ⟨p, 0, none⟩), .agg #[.int .i64 3, sec, .int .i64 n, .int .u64 u, .int .i64 i, b, s, l]] w (ShortOut w p) := by
  obtain ⟨o, ho⟩ : ∃ o, o = Obj.cells #[.int .i64 3, sec, .int .i64 n, .int .u64 u, .int .i64 i, b, s, l] 46 := ⟨_, rfl⟩
  have he0 : Eff (· = p) w (w.alloc o) := (Eff.refl _ _).alloc _
  have h0 : Rdr (w.alloc o) B0 p v bs 0 := h.eff (F := fun _ => False) ((Eff.refl _ _).alloc _) (fun _ _ f => f)
  have hE0 : RErr (w.alloc o) EA := hE.eff ((Eff.refl (fun _ => False) _).alloc _) hG (fun _ f => f.elim)
  have hB0 : B0 ≤ (w.alloc o).heap.size := by simp; omega
  have hnb : ¬ w.heap.size = p := fun e => by have := (h.ge p (.inl rfl)).2; omega
  have hpB := h.hp
  have hbx : (w.alloc o).heap[w.heap.size]? = some o := heap_alloc_new w _
  have BX : ∀ w1, Eff (· = p) (w.alloc o) w1 → Cells8 w1 w.heap.size (.int .i64 3) sec (.int .i64 n) (.int .u64 u) (.int .i64 i) b s l := fun w1 he => by
    have h1 := he.block w.heap.size (by simp) hnb
    rw [hbx, ho] at h1
    exact Cells8.of h1
  have C1 := rvar_out _ B0 p v bs 0 h0 EA hE0
  have hres : getU (bs.drop 0) = .error 1 := by rw [List.drop_zero, ht]; exact getU_cut _ j (by have := zigI_bd i hi0 hi1; omega) hk
  have HE0 := Lib.hid he0
  have HBX := Lib.hid BX
  have HR := Lib.hid hres
  have HEE := Lib.hid hE0
  have HGG := Lib.hid hG
  rw [ho] at C1
  have HO := Lib.hid ho
  clear BX hbx hnb hB0 hE0 h0 he0 ho hres ht hE hG h
  go_enter Tryd.func47, Tryd.ntmps47
  go_wp2_with fail
  refine C1.mono ?_
  rintro e w1 ⟨h1, _⟩
  obtain ⟨rfl, hr1, he1⟩ := h1 _ HR.out
  rw [← HO.out] at he1
  have hS := (HEE.out.eff he1 HGG.out (fun k hk => by subst hk; exact hpB)).s
  unfold errV at hS
  have hq := err_same (EA 1) w1
  have HE1 := Lib.hid (HE0.out.trans he1 (fun _ h _ => h))
  have C2 := rat_any w1 B0 p v bs 0 hr1
  clear he1 hr1 h1 HBX HO C1
  unfold errV
  go_wp2_with fail
  refine C2.mono ?_
  rintro e w2 ⟨rfl, rfl⟩
  go_wp2
  go_ret
  exact ⟨rfl, HE1.out⟩

set_option maxRecDepth 100000 in
set_option maxHeartbeats 1000000 in
theorem short_w32 (w : World) (B0 p : Nat) (v : Value) (bs : List UInt8) (h : Rdr w B0 p v bs 0) (hB : B0 ≤ w.heap.size) (EA : Nat → Addr) (hE : RErr w EA) (hG : GLow B0) (sec b s l : Value) (n u i : Int) (m : Nat) (hm : (m : Int) ≤ 18446744073709551615) (j : Nat) (hk : j < (leB 4 (m % 4294967296)).length) (ht : bs = (leB 4 (m % 4294967296)).take j) :
    Calls Tryd.prog 47 #[.pointer (some ⟨p, 0, none⟩), .agg #[.int .i64 4, sec, .int .i64 n, .int .u64 m, .int .i64 i, b, s, l]] w (ShortOut w p) := by
  obtain ⟨o, ho⟩ : ∃ o, o = Obj.cells #[.int .i64 4, sec, .int .i64 n, .int .u64 m, .int .i64 i, b, s, l] 46 := ⟨_, rfl⟩
  have he0 : Eff (· = p) w (w.alloc o) := (Eff.refl _ _).alloc _
  have h0 : Rdr (w.alloc o) B0 p v bs 0 := h.eff (F := fun _ => False) ((Eff.refl _ _).alloc _) (fun _ _ f => f)
  have hE0 : RErr (w.alloc o) EA := hE.eff ((Eff.refl (fun _ => False) _).alloc _) hG (fun _ f => f.elim)
  have hB0 : B0 ≤ (w.alloc o).heap.size := by simp; omega
  have hnb : ¬ w.heap.size = p := fun e => by have := (h.ge p (.inl rfl)).2; omega
  have hpB := h.hp
  have hbx : (w.alloc o).heap[w.heap.size]? = some o := heap_alloc_new w _
  have BX : ∀ w1, Eff (· = p) (w.alloc o) w1 → Cells8 w1 w.heap.size (.int .i64 4) sec (.int .i64 n) (.int .u64 m) (.int .i64 i) b s l := fun w1 he => by
    have h1 := he.block w.heap.size (by simp) hnb
    rw [hbx, ho] at h1
    exact Cells8.of h1
  have C1 := r32_out _ B0 p v bs 0 h0 EA hE0
  have hres : getW 4 (bs.drop 0) = .error 1 := by rw [List.drop_zero, ht]; exact gc_w 4 _ j (by rw [leB_length] at hk; exact hk)
  have HE0 := Lib.hid he0
  have HBX := Lib.hid BX
  have HR := Lib.hid hres
  have HEE := Lib.hid hE0
  have HGG := Lib.hid hG
  rw [ho] at C1
  have HO := Lib.hid ho
  clear BX hbx hnb hB0 hE0 h0 he0 ho hres ht hE hG h
  go_enter Tryd.func47, Tryd.ntmps47
  go_wp2_with fail
  refine C1.mono ?_
  rintro e w1 ⟨h1, _⟩
  obtain ⟨rfl, hr1, he1⟩ := h1 _ HR.out
  rw [← HO.out] at he1
  have hS := (HEE.out.eff he1 HGG.out (fun k hk => by subst hk; exact hpB)).s
  unfold errV at hS
  have hq := err_same (EA 1) w1
  have HE1 := Lib.hid (HE0.out.trans he1 (fun _ h _ => h))
  have C2 := rat_any w1 B0 p v bs 0 hr1
  clear he1 hr1 h1 HBX HO C1
  unfold errV
  go_wp2_with fail
  refine C2.mono ?_
  rintro e w2 ⟨rfl, rfl⟩
  go_wp2
  go_ret
  exact ⟨rfl, HE1.out⟩

set_option maxRecDepth 100000 in
set_option maxHeartbeats 1000000 in
theorem short_w64 (w : World) (B0 p : Nat) (v : Value) (bs : List UInt8) (h : Rdr w B0 p v bs 0) (hB : B0 ≤ w.heap.size) (EA : Nat → Addr) (hE : RErr w EA) (hG : GLow B0) (sec b s l : Value) (n u i : Int) (m : Nat) (hm : (m : Int) ≤ 18446744073709551615) (j : Nat) (hk : j < (leB 8 m).length) (ht : bs = (leB 8 m).take j) :
    Calls Tryd.prog 47 #[.pointer (some ⟨p, 0, none⟩), .agg #[.int .i64 5, sec, .int .i64 n, .int .u64 m, .int .i64 i, b, s, l]] w (ShortOut w p) := by
  obtain ⟨o, ho⟩ : ∃ o, o = Obj.cells #[.int .i64 5, sec, .int .i64 n, .int .u64 m, .int .i64 i, b, s, l] 46 := ⟨_, rfl⟩
  have he0 : Eff (· = p) w (w.alloc o) := (Eff.refl _ _).alloc _
  have h0 : Rdr (w.alloc o) B0 p v bs 0 := h.eff (F := fun _ => False) ((Eff.refl _ _).alloc _) (fun _ _ f => f)
  have hE0 : RErr (w.alloc o) EA := hE.eff ((Eff.refl (fun _ => False) _).alloc _) hG (fun _ f => f.elim)
  have hB0 : B0 ≤ (w.alloc o).heap.size := by simp; omega
  have hnb : ¬ w.heap.size = p := fun e => by have := (h.ge p (.inl rfl)).2; omega
  have hpB := h.hp
  have hbx : (w.alloc o).heap[w.heap.size]? = some o := heap_alloc_new w _
  have BX : ∀ w1, Eff (· = p) (w.alloc o) w1 → Cells8 w1 w.heap.size (.int .i64 5) sec (.int .i64 n) (.int .u64 m) (.int .i64 i) b s l := fun w1 he => by
    have h1 := he.block w.heap.size (by simp) hnb
    rw [hbx, ho] at h1
    exact Cells8.of h1
  have C1 := r64_out _ B0 p v bs 0 h0 EA hE0
  have hres : getW 8 (bs.drop 0) = .error 1 := by rw [List.drop_zero, ht]; exact gc_w 8 _ j (by rw [leB_length] at hk; exact hk)
  have HE0 := Lib.hid he0
  have HBX := Lib.hid BX
  have HR := Lib.hid hres
  have HEE := Lib.hid hE0
  have HGG := Lib.hid hG
  rw [ho] at C1
  have HO := Lib.hid ho
  clear BX hbx hnb hB0 hE0 h0 he0 ho hres ht hE hG h
  go_enter Tryd.func47, Tryd.ntmps47
  go_wp2_with fail
  refine C1.mono ?_
  rintro e w1 ⟨h1, _⟩
  obtain ⟨rfl, hr1, he1⟩ := h1 _ HR.out
  rw [← HO.out] at he1
  have hS := (HEE.out.eff he1 HGG.out (fun k hk => by subst hk; exact hpB)).s
  unfold errV at hS
  have hq := err_same (EA 1) w1
  have HE1 := Lib.hid (HE0.out.trans he1 (fun _ h _ => h))
  have C2 := rat_any w1 B0 p v bs 0 hr1
  clear he1 hr1 h1 HBX HO C1
  unfold errV
  go_wp2_with fail
  refine C2.mono ?_
  rintro e w2 ⟨rfl, rfl⟩
  go_wp2
  go_ret
  exact ⟨rfl, HE1.out⟩

set_option maxRecDepth 100000 in
set_option maxHeartbeats 1000000 in
theorem short_raw (w : World) (B0 p : Nat) (v : Value) (bs : List UInt8) (h : Rdr w B0 p v bs 0) (hB : B0 ≤ w.heap.size) (EA : Nat → Addr) (hE : RErr w EA) (hG : GLow B0) (sec b s l : Value) (n u i : Int) (ba : Option Addr) (bn bc : Nat) (cs : List UInt8) (hrd : Rd w (.slice ba bn bc) (bytesV cs)) (hcs : cs.length ≤ 1000000000) (hlow : 0 < cs.length → ∀ b o, ba = some ⟨b, o, none⟩ → b < B0) (j : Nat) (hk : j < (cs).length) (ht : bs = (cs).take j) :
    Calls Tryd.prog 47 #[.pointer (some ⟨p, 0, none⟩), .agg #[.int .i64 6, sec, .int .i64 n, .int .u64 u, .int .i64 i, .slice ba bn bc, s, l]] w (ShortOut w p) := by
  obtain ⟨o, ho⟩ : ∃ o, o = Obj.cells #[.int .i64 6, sec, .int .i64 n, .int .u64 u, .int .i64 i, .slice ba bn bc, s, l] 46 := ⟨_, rfl⟩
  have he0 : Eff (· = p) w (w.alloc o) := (Eff.refl _ _).alloc _
  have h0 : Rdr (w.alloc o) B0 p v bs 0 := h.eff (F := fun _ => False) ((Eff.refl _ _).alloc _) (fun _ _ f => f)
  have hE0 : RErr (w.alloc o) EA := hE.eff ((Eff.refl (fun _ => False) _).alloc _) hG (fun _ f => f.elim)
  have hB0 : B0 ≤ (w.alloc o).heap.size := by simp; omega
  have hnb : ¬ w.heap.size = p := fun e => by have := (h.ge p (.inl rfl)).2; omega
  have hpB := h.hp
  have hbx : (w.alloc o).heap[w.heap.size]? = some o := heap_alloc_new w _
  have BX : ∀ w1, Eff (· = p) (w.alloc o) w1 → Cells8 w1 w.heap.size (.int .i64 6) sec (.int .i64 n) (.int .u64 u) (.int .i64 i) (.slice ba bn bc) s l := fun w1 he => by
    have h1 := he.block w.heap.size (by simp) hnb
    rw [hbx, ho] at h1
    exact Cells8.of h1
  have C1 := rraw_any _ B0 p v bs 0 h0 EA hE0 cs.length (by omega) (by omega)
  have hres : getRaw cs.length (bs.drop 0) = .error 1 := by rw [List.drop_zero, ht]; exact gc_raw cs j hk
  have hn1 : bn = cs.length := by obtain ⟨A, c, e, _⟩ := hrd; injection e with _ e _; rw [e, bytesV_length]
  subst hn1
  have HE0 := Lib.hid he0
  have HBX := Lib.hid BX
  have HR := Lib.hid hres
  have HEE := Lib.hid hE0
  have HGG := Lib.hid hG
  rw [ho] at C1
  have HO := Lib.hid ho
  clear BX hbx hnb hB0 hE0 h0 he0 ho hres ht hE hG h hrd hlow
  go_enter Tryd.func47, Tryd.ntmps47
  go_wp2_with fail
  refine C1.mono ?_
  rintro e w1 ⟨h1, _⟩
  obtain ⟨rfl, hr1, he1⟩ := h1 _ HR.out
  rw [← HO.out] at he1
  have hS := (HEE.out.eff he1 HGG.out (fun k hk => by subst hk; exact hpB)).s
  unfold errV at hS
  have hq := err_same (EA 1) w1
  have HE1 := Lib.hid (HE0.out.trans he1 (fun _ h _ => h))
  have C2 := rat_any w1 B0 p v bs 0 hr1
  clear he1 hr1 h1 HBX HO C1
  unfold errV
  go_wp2_with fail
  refine C2.mono ?_
  rintro e w2 ⟨rfl, rfl⟩
  go_wp2
  go_ret
  exact ⟨rfl, HE1.out⟩

set_option maxRecDepth 100000 in
set_option maxHeartbeats 1000000 in
theorem short_text (w : World) (B0 p : Nat) (v : Value) (bs : List UInt8) (h : Rdr w B0 p v bs 0) (hB : B0 ≤ w.heap.size) (EA : Nat → Addr) (hE : RErr w EA) (hG : GLow B0) (sec b s l : Value) (n u i : Int) (sb : ByteArray) (hsb : sb.size ≤ 1000000000) (j : Nat) (hk : j < ((uvar sb.size ++ sb.data.toList)).length) (ht : bs = ((uvar sb.size ++ sb.data.toList)).take j) :
    Calls Tryd.prog 47 #[.pointer (some ⟨p, 0, none⟩), .agg #[.int .i64 7, sec, .int .i64 n, .int .u64 u, .int .i64 i, b, .string sb, l]] w (ShortOut w p) := by
  obtain ⟨o, ho⟩ : ∃ o, o = Obj.cells #[.int .i64 7, sec, .int .i64 n, .int .u64 u, .int .i64 i, b, .string sb, l] 46 := ⟨_, rfl⟩
  have he0 : Eff (· = p) w (w.alloc o) := (Eff.refl _ _).alloc _
  have h0 : Rdr (w.alloc o) B0 p v bs 0 := h.eff (F := fun _ => False) ((Eff.refl _ _).alloc _) (fun _ _ f => f)
  have hE0 : RErr (w.alloc o) EA := hE.eff ((Eff.refl (fun _ => False) _).alloc _) hG (fun _ f => f.elim)
  have hB0 : B0 ≤ (w.alloc o).heap.size := by simp; omega
  have hnb : ¬ w.heap.size = p := fun e => by have := (h.ge p (.inl rfl)).2; omega
  have hpB := h.hp
  have hbx : (w.alloc o).heap[w.heap.size]? = some o := heap_alloc_new w _
  have BX : ∀ w1, Eff (· = p) (w.alloc o) w1 → Cells8 w1 w.heap.size (.int .i64 7) sec (.int .i64 n) (.int .u64 u) (.int .i64 i) b (.string sb) l := fun w1 he => by
    have h1 := he.block w.heap.size (by simp) hnb
    rw [hbx, ho] at h1
    exact Cells8.of h1
  have C1 := rtext_any _ B0 p v bs 0 h0 EA hE0 hG sb.size (by omega) (by omega)
  have hres : getText sb.size (bs.drop 0) = .error 1 := by rw [List.drop_zero, ht]; exact gct sb j (by omega) hk
  have HE0 := Lib.hid he0
  have HBX := Lib.hid BX
  have HR := Lib.hid hres
  have HEE := Lib.hid hE0
  have HGG := Lib.hid hG
  rw [ho] at C1
  have HO := Lib.hid ho
  clear BX hbx hnb hB0 hE0 h0 he0 ho hres ht hE hG h
  go_enter Tryd.func47, Tryd.ntmps47
  go_wp2_with fail
  refine C1.mono ?_
  rintro e w1 ⟨h1, _⟩
  obtain ⟨rfl, hr1, he1⟩ := h1 _ HR.out
  rw [← HO.out] at he1
  have hS := (HEE.out.eff he1 HGG.out (fun k hk => by subst hk; exact hpB)).s
  unfold errV at hS
  have hq := err_same (EA 1) w1
  have HE1 := Lib.hid (HE0.out.trans he1 (fun _ h _ => h))
  have C2 := rat_any w1 B0 p v bs 0 hr1
  clear he1 hr1 h1 HBX HO C1
  unfold errV
  go_wp2_with fail
  refine C2.mono ?_
  rintro e w2 ⟨rfl, rfl⟩
  go_wp2
  go_ret
  exact ⟨rfl, HE1.out⟩

set_option maxRecDepth 100000 in
set_option maxHeartbeats 1000000 in
theorem short_ris (w : World) (B0 p : Nat) (v : Value) (bs : List UInt8) (h : Rdr w B0 p v bs 0) (hB : B0 ≤ w.heap.size) (EA : Nat → Addr) (hE : RErr w EA) (hG : GLow B0) (sec b s l : Value) (n u i : Int) (la : Option Addr) (ln lc : Nat) (ls : List Int) (hrd : Rd w (.slice la ln lc) (intL ls)) (hll : ls.length ≤ 1000000000) (hf : FitL ls) (hok : anyNeg ls = false ∧ rises ls) (hlow : 0 < ls.length → ∀ b o, la = some ⟨b, o, none⟩ → b < B0) (j : Nat) (hk : j < (risB ls).length) (ht : bs = (risB ls).take j) :
    Calls Tryd.prog 47 #[.pointer (some ⟨p, 0, none⟩), .agg #[.int .i64 8, sec, .int .i64 n, .int .u64 u, .int .i64 i, b, s, .slice la ln lc]] w (ShortOut w p) := by
  obtain ⟨o, ho⟩ : ∃ o, o = Obj.cells #[.int .i64 8, sec, .int .i64 n, .int .u64 u, .int .i64 i, b, s, .slice la ln lc] 46 := ⟨_, rfl⟩
  have he0 : Eff (· = p) w (w.alloc o) := (Eff.refl _ _).alloc _
  have h0 : Rdr (w.alloc o) B0 p v bs 0 := h.eff (F := fun _ => False) ((Eff.refl _ _).alloc _) (fun _ _ f => f)
  have hE0 : RErr (w.alloc o) EA := hE.eff ((Eff.refl (fun _ => False) _).alloc _) hG (fun _ f => f.elim)
  have hB0 : B0 ≤ (w.alloc o).heap.size := by simp; omega
  have hnb : ¬ w.heap.size = p := fun e => by have := (h.ge p (.inl rfl)).2; omega
  have hpB := h.hp
  have hbx : (w.alloc o).heap[w.heap.size]? = some o := heap_alloc_new w _
  have BX : ∀ w1, Eff (· = p) (w.alloc o) w1 → Cells8 w1 w.heap.size (.int .i64 8) sec (.int .i64 n) (.int .u64 u) (.int .i64 i) b s (.slice la ln lc) := fun w1 he => by
    have h1 := he.block w.heap.size (by simp) hnb
    rw [hbx, ho] at h1
    exact Cells8.of h1
  have C1 := rris_out _ B0 p v bs 0 h0 hB0 EA hE0 hG ls.length (by omega) (by omega)
  have hres : getRis ls.length (bs.drop 0) = .error 1 := by rw [List.drop_zero, ht]; exact gc_ris hok.1 hok.2 hf (by omega) j hk
  have hn1 : ln = ls.length := by obtain ⟨A, c, e, _⟩ := hrd; injection e with _ e _; rw [e, intL_length]
  subst hn1
  have HE0 := Lib.hid he0
  have HBX := Lib.hid BX
  have HR := Lib.hid hres
  have HEE := Lib.hid hE0
  have HGG := Lib.hid hG
  rw [ho] at C1
  have HO := Lib.hid ho
  clear BX hbx hnb hB0 hE0 h0 he0 ho hres ht hE hG h hrd hlow hf hok
  go_enter Tryd.func47, Tryd.ntmps47
  go_wp2_with fail
  refine C1.mono ?_
  rintro e w1 ⟨h1, _⟩
  obtain ⟨rfl, ⟨k', hk', hr1⟩, he1⟩ := h1 _ HR.out
  obtain rfl := hk' rfl
  rw [← HO.out] at he1
  have hS := (HEE.out.eff he1 HGG.out (fun k hk => by subst hk; exact hpB)).s
  unfold errV at hS
  have hq := err_same (EA 1) w1
  have HE1 := Lib.hid (HE0.out.trans he1 (fun _ h _ => h))
  have C2 := rat_any w1 B0 p v bs 0 hr1
  clear he1 hr1 h1 HBX HO C1
  unfold errV
  go_wp2_with fail
  refine C2.mono ?_
  rintro e w2 ⟨rfl, rfl⟩
  go_wp2
  go_ret
  exact ⟨rfl, HE1.out⟩

set_option maxRecDepth 100000 in
set_option maxHeartbeats 1000000 in
theorem short_pck (w : World) (B0 p : Nat) (v : Value) (bs : List UInt8) (h : Rdr w B0 p v bs 0) (hB : B0 ≤ w.heap.size) (EA : Nat → Addr) (hE : RErr w EA) (hG : GLow B0) (sec b s l : Value) (n u i : Int) (la : Option Addr) (ln lc : Nat) (ls : List Int) (hrd : Rd w (.slice la ln lc) (intL ls)) (hll : ls.length ≤ 1000000000) (hf : FitL ls) (hok : okPck ls) (hlow : 0 < ls.length → ∀ b o, la = some ⟨b, o, none⟩ → b < B0) (j : Nat) (hk : j < (pckB (natOf ls)).length) (ht : bs = (pckB (natOf ls)).take j) :
    Calls Tryd.prog 47 #[.pointer (some ⟨p, 0, none⟩), .agg #[.int .i64 9, sec, .int .i64 n, .int .u64 u, .int .i64 i, b, s, .slice la ln lc]] w (ShortOut w p) := by
  obtain ⟨o, ho⟩ : ∃ o, o = Obj.cells #[.int .i64 9, sec, .int .i64 n, .int .u64 u, .int .i64 i, b, s, .slice la ln lc] 46 := ⟨_, rfl⟩
  have he0 : Eff (· = p) w (w.alloc o) := (Eff.refl _ _).alloc _
  have h0 : Rdr (w.alloc o) B0 p v bs 0 := h.eff (F := fun _ => False) ((Eff.refl _ _).alloc _) (fun _ _ f => f)
  have hE0 : RErr (w.alloc o) EA := hE.eff ((Eff.refl (fun _ => False) _).alloc _) hG (fun _ f => f.elim)
  have hB0 : B0 ≤ (w.alloc o).heap.size := by simp; omega
  have hnb : ¬ w.heap.size = p := fun e => by have := (h.ge p (.inl rfl)).2; omega
  have hpB := h.hp
  have hbx : (w.alloc o).heap[w.heap.size]? = some o := heap_alloc_new w _
  have BX : ∀ w1, Eff (· = p) (w.alloc o) w1 → Cells8 w1 w.heap.size (.int .i64 9) sec (.int .i64 n) (.int .u64 u) (.int .i64 i) b s (.slice la ln lc) := fun w1 he => by
    have h1 := he.block w.heap.size (by simp) hnb
    rw [hbx, ho] at h1
    exact Cells8.of h1
  have C1 := rpck_out _ B0 p v bs 0 h0 hB0 EA hE0 hG ls.length (by omega) (by omega)
  have hres : toI (getPk ls.length (bs.drop 0)) = .error 1 := by rw [List.drop_zero, ht]; exact gcp hok hf hll j hk
  have hn1 : ln = ls.length := by obtain ⟨A, c, e, _⟩ := hrd; injection e with _ e _; rw [e, intL_length]
  subst hn1
  have HE0 := Lib.hid he0
  have HBX := Lib.hid BX
  have HR := Lib.hid hres
  have HEE := Lib.hid hE0
  have HGG := Lib.hid hG
  rw [ho] at C1
  have HO := Lib.hid ho
  clear BX hbx hnb hB0 hE0 h0 he0 ho hres ht hE hG h hrd hlow hf hok
  go_enter Tryd.func47, Tryd.ntmps47
  go_wp2_with fail
  refine C1.mono ?_
  rintro e w1 ⟨h1, _⟩
  obtain ⟨rfl, ⟨k', hk', hr1⟩, he1⟩ := h1 _ HR.out
  obtain rfl := hk' rfl
  rw [← HO.out] at he1
  have hS := (HEE.out.eff he1 HGG.out (fun k hk => by subst hk; exact hpB)).s
  unfold errV at hS
  have hq := err_same (EA 1) w1
  have HE1 := Lib.hid (HE0.out.trans he1 (fun _ h _ => h))
  have C2 := rat_any w1 B0 p v bs 0 hr1
  clear he1 hr1 h1 HBX HO C1
  unfold errV
  go_wp2_with fail
  refine C2.mono ?_
  rintro e w2 ⟨rfl, rfl⟩
  go_wp2
  go_ret
  exact ⟨rfl, HE1.out⟩

set_option maxRecDepth 100000 in
set_option maxHeartbeats 1000000 in
theorem short_upto (w : World) (B0 p : Nat) (v : Value) (bs : List UInt8) (h : Rdr w B0 p v bs 0) (hB : B0 ≤ w.heap.size) (EA : Nat → Addr) (hE : RErr w EA) (hG : GLow B0) (sec b s l : Value) (n u i : Int) (m : Nat) (hm : (m : Int) ≤ 18446744073709551615) (j : Nat) (hk : j < (uvar m).length) (ht : bs = (uvar m).take j) :
    Calls Tryd.prog 47 #[.pointer (some ⟨p, 0, none⟩), .agg #[.int .i64 10, sec, .int .i64 n, .int .u64 m, .int .i64 i, b, s, l]] w (ShortOut w p) := by
  obtain ⟨o, ho⟩ : ∃ o, o = Obj.cells #[.int .i64 10, sec, .int .i64 n, .int .u64 m, .int .i64 i, b, s, l] 46 := ⟨_, rfl⟩
  have he0 : Eff (· = p) w (w.alloc o) := (Eff.refl _ _).alloc _
  have h0 : Rdr (w.alloc o) B0 p v bs 0 := h.eff (F := fun _ => False) ((Eff.refl _ _).alloc _) (fun _ _ f => f)
  have hE0 : RErr (w.alloc o) EA := hE.eff ((Eff.refl (fun _ => False) _).alloc _) hG (fun _ f => f.elim)
  have hB0 : B0 ≤ (w.alloc o).heap.size := by simp; omega
  have hnb : ¬ w.heap.size = p := fun e => by have := (h.ge p (.inl rfl)).2; omega
  have hpB := h.hp
  have hbx : (w.alloc o).heap[w.heap.size]? = some o := heap_alloc_new w _
  have BX : ∀ w1, Eff (· = p) (w.alloc o) w1 → Cells8 w1 w.heap.size (.int .i64 10) sec (.int .i64 n) (.int .u64 m) (.int .i64 i) b s l := fun w1 he => by
    have h1 := he.block w.heap.size (by simp) hnb
    rw [hbx, ho] at h1
    exact Cells8.of h1
  have C1 := rupto_out _ B0 p v bs 0 h0 EA hE0 hG 9223372036854775807 (by omega) (by omega)
  have hres : getUpto 9223372036854775807 (bs.drop 0) = .error 1 := by rw [List.drop_zero, ht]; exact gc_upto _ m j (by omega) hk
  have HE0 := Lib.hid he0
  have HBX := Lib.hid BX
  have HR := Lib.hid hres
  have HEE := Lib.hid hE0
  have HGG := Lib.hid hG
  rw [ho] at C1
  have HO := Lib.hid ho
  clear BX hbx hnb hB0 hE0 h0 he0 ho hres ht hE hG h
  go_enter Tryd.func47, Tryd.ntmps47
  go_wp2_with fail
  refine C1.mono ?_
  rintro e w1 ⟨h1, _⟩
  obtain ⟨rfl, hr1, he1⟩ := h1 _ HR.out
  rw [← HO.out] at he1
  have hS := (HEE.out.eff he1 HGG.out (fun k hk => by subst hk; exact hpB)).s
  unfold errV at hS
  have hq := err_same (EA 1) w1
  have HE1 := Lib.hid (HE0.out.trans he1 (fun _ h _ => h))
  have C2 := rat_any w1 B0 p v bs 0 hr1
  clear he1 hr1 h1 HBX HO C1
  unfold errV
  go_wp2_with fail
  refine C2.mono ?_
  rintro e w2 ⟨rfl, rfl⟩
  go_wp2
  go_ret
  exact ⟨rfl, HE1.out⟩

end Go.Proofs.YtmmflhippbegaaaDoor
