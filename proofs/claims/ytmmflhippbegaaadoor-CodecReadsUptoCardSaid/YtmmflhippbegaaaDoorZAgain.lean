/- The law's 'again': a value read and written. -/
import Derived.Test.YtmmflhippbegaaaDoorZForm
import Derived.Test.YtmmflhippbegaaaDoorZG6
import Derived.Test.YtmmflhippbegaaaDoorZWAll
namespace Go.Proofs.YtmmflhippbegaaaDoor
set_option linter.unusedVariables false
open Go.ChangeShapes Go.WideShapes Go.ChangeAt Go.RowKit

/-- A Reader and a Writer behind it. -/
structure RW (w : World) (B0 C p q : Nat) (v vw : Value) (bs : List UInt8) (k : Nat) (out : List UInt8) : Prop where
  r : Rdr w B0 p v bs k
  wr : Wr w C q vw out
  sep : ∀ j, RdrB p v j → j < C
  hC : C ≤ w.heap.size
  hB : B0 ≤ C
theorem RW.box {w : World} {B0 C p q : Nat} {v vw : Value} {bs out : List UInt8} {k : Nat} (h : RW w B0 C p q v vw bs k out) (o : Obj) : RW (w.alloc o) B0 C p q v vw bs k out :=
  ⟨h.r.eff (F := fun _ => False) ((Eff.refl _ _).alloc _) (fun _ _ f => f), h.wr.eff (F := fun _ => False) ((Eff.refl _ _).alloc _) (fun _ _ f => f), h.sep, Nat.le_trans h.hC (by simp), h.hB⟩
/-- Behind a read. -/
theorem RW.read {w w1 : World} {B0 C p q : Nat} {v vw : Value} {bs out : List UInt8} {k k' : Nat} (h : RW w B0 C p q v vw bs k out) (hr : Rdr w1 B0 p v bs k') (he : Eff (· = p) w w1) : RW w1 B0 C p q v vw bs k' out ∧ Below B0 w w1 :=
  ⟨⟨hr, h.wr.eff he (fun j hj e => by have h1 := (h.wr.ge j hj).1; have h2 := h.sep p (.inl rfl); omega), h.sep, Nat.le_trans h.hC he.size, h.hB⟩,
    he.below (fun i hi => by subst hi; exact h.r.hp) (Nat.le_trans h.hB h.hC)⟩
/-- Behind a write. -/
theorem RW.write {w w1 : World} {B0 C p q : Nat} {v vw vw1 : Value} {bs out out1 : List UInt8} {k : Nat} (h : RW w B0 C p q v vw bs k out) (hw : Wr w1 C q vw1 out1) (he : Wrote w w1 q vw vw1) : RW w1 B0 C p q v vw1 bs k out1 ∧ Below B0 w w1 :=
  ⟨⟨h.r.eff he.eff (fun j hj e => by have h1 := h.sep j hj; have h2 := (h.wr.ge j e).1; omega), hw, h.sep, Nat.le_trans h.hC he.eff.size, h.hB⟩,
    (he.below h.wr h.hC).mono h.hB⟩
/-- What 'again' answers and leaves. -/
def AgPost (w : World) (B0 C p q : Nat) (v : Value) (bs : List UInt8) (k : Nat) (e : Ending) (w' : World) : Prop :=
  ∃ (took : Bool) (k' : Nat) (vw : Value) (out : List UInt8), e = .returned (.bool took) ∧ RW w' B0 C p q v vw bs k' out ∧ k ≤ k' ∧ (took = false → k' = k) ∧ (took = true → out = (bs.drop k).take (k' - k)) ∧ Below B0 w w'
theorem ag_ok {w w' : World} {B0 C p q : Nat} {v vw : Value} {bs out : List UInt8} {k n : Nat} (h : RW w' B0 C p q v vw bs (k + n) out) (ho : (bs.drop k).take n = out) (hb : Below B0 w w') : AgPost w B0 C p q v bs k (.returned (.bool true)) w' :=
  ⟨true, k + n, vw, out, rfl, h, by omega, fun h => (by cases h), fun _ => (by rw [Nat.add_sub_cancel_left]; exact ho.symm), hb⟩
theorem ag_err {w w' : World} {B0 C p q : Nat} {v vw : Value} {bs out : List UInt8} {k : Nat} (h : RW w' B0 C p q v vw bs k out) (hb : Below B0 w w') : AgPost w B0 C p q v bs k (.returned (.bool false)) w' :=
  ⟨false, k, vw, out, rfl, h, by omega, fun _ => rfl, fun h => (by cases h), hb⟩

theorem own_ge {w : World} {base : Nat} {e : TypeId} {b o n c : Nat} {xs : List Value} (h : Own w base e (.slice (some ⟨b, o, none⟩) n c) xs) : base ≤ b := by
  rcases h.shape with ⟨e, _⟩ | ⟨g, cap, e, hb, _⟩
  · injection e with e _ _; cases e
  · injection e with e _ _; injection e with e; injection e with e _; rw [e]; exact hb
theorem rbyte_out (w : World) (base p : Nat) (v : Value) (bs : List UInt8) (k : Nat) (h : Rdr w base p v bs k) (EA : Nat → Addr) (hE : RErr w EA) :
    Calls Tryd.prog 67 #[.pointer (some ⟨p, 0, none⟩)] w (ROut w base p v bs k EA (.int .u8 0) (fun u : Nat => .int .u8 u) (getB (bs.drop k))) := by
  by_cases hk : k < bs.length
  · have hd : getB (bs.drop k) = .ok (bs[k].toNat, 1) := by rw [List.drop_eq_getElem_cons hk]; rfl
    refine (rbyte_ok w base p v bs k h hk).mono ?_
    rintro e w' ⟨h1, h2, h3⟩
    exact ROut.ok hd h1 h2 h3
  · have hd : getB (bs.drop k) = .error 1 := by rw [List.drop_eq_nil_of_le (by omega)]; rfl
    refine (rbyte_err w base p v bs k h EA hE hk).mono ?_
    rintro e w' ⟨h1, h2, h3⟩
    exact ROut.err hd h1 h2 h3
theorem b_form {l : List UInt8} {x j : Nat} (h : getB l = .ok (x, j)) : x < 256 ∧ l.take j = [UInt8.ofNat x] := by
  cases l with
  | nil => cases h
  | cons y r =>
    rw [getB] at h; injection h with h; injection h with e1 e2; subst e1 e2
    exact ⟨y.toNat_lt, by simp⟩
theorem gapsB_ge : ∀ (last : Int) (l : List Int), l.length ≤ (gapsB last l).length
  | _, [] => Nat.le_refl _
  | last, z :: r => by
    have h1 := gapsB_ge z r
    have h2 : 1 ≤ (uvar (z - last - 1).toNat).length := List.length_pos_iff.2 (uvar_ne _)
    rw [gapsB, List.length_append, List.length_cons]; omega
theorem toI_ok {res : Except Nat (List Nat × Nat)} {x : List Int} {c : Nat} (h : toI res = .ok (x, c)) : ∃ r, x = natI r ∧ res = .ok (r, c) := by
  cases res with
  | error e => cases h
  | ok y =>
    obtain ⟨r, j⟩ := y
    injection h with h; injection h with e1 e2
    exact ⟨r, e1.symm, by rw [e2]⟩
theorem pck_len {l : List UInt8} {r : List Nat} {j : Nat} (h : l.take j = pckB r) (hc : r = [] ∨ (0 < r.length ∧ widL r = 0 ∧ r.length ≤ 65536) ∨ (0 < r.length ∧ 0 < widL r)) (hl : l.length ≤ 100000000) : r.length ≤ 1000000000 := by
  rcases hc with h0 | ⟨_, _, h0⟩ | ⟨h0, h1⟩
  · rw [h0]; simp
  · omega
  · have hne : r ≠ [] := fun e => by rw [e] at h0; simp at h0
    have h2 := congrArg List.length h
    rw [List.length_take, pckB, if_neg hne, List.length_append, packB, List.length_cons, leB_length] at h2
    have h3 : r.length * 1 ≤ r.length * widL r := Nat.mul_le_mul_left _ h1
    omega

/-! ### The kinds -/
set_option maxRecDepth 100000 in
set_option maxHeartbeats 1000000 in
theorem again_byte (w : World) (B0 C p q : Nat) (v vw : Value) (bs : List UInt8) (k : Nat) (h : RW w B0 C p q v vw bs k []) (hbs : bs.length ≤ 100000000) (EA : Nat → Addr) (hE : RErr w EA) (hG : GLow B0) (sec b s l : Value) (n i : Int) (u : Int) (hn0 : -9223372036854775808 ≤ n) (hn1 : n ≤ 9223372036854775807) :
    Calls Tryd.prog 43 #[.pointer (some ⟨p, 0, none⟩), .pointer (some ⟨q, 0, none⟩), .agg #[.int .i64 1, sec, .int .i64 n, .int .u64 u, .int .i64 i, b, s, l]] w (AgPost w B0 C p q v bs k) := by
  obtain ⟨o, ho⟩ : ∃ o, o = Obj.cells #[.int .i64 1, sec, .int .i64 n, .int .u64 u, .int .i64 i, b, s, l] 46 := ⟨_, rfl⟩
  have h0 := h.box o
  have hE0 : RErr (w.alloc o) EA := hE.eff ((Eff.refl (fun _ => False) _).alloc _) hG (fun _ f => f.elim)
  have hb0 : Below B0 w (w.alloc o) := (Below.refl _ _).alloc (Nat.le_trans h.hB h.hC) _
  have C1 := rbyte_out _ B0 p v bs k h0.r EA hE0
  have hdl : (bs.drop k).length ≤ 100000000 := by rw [List.length_drop]; omega
  have HB0 := Lib.hid hb0
  have H0 := Lib.hid h0
  have HE0 := Lib.hid hE0
  rw [ho] at C1
  have HO := Lib.hid ho
  clear h0 hb0 ho hE hG h hE0
  cases hres : getB (bs.drop k) with
  | error m =>
    have HR := Lib.hid hres
    clear hres
    go_enter Tryd.func43, Tryd.ntmps43
    go_wp2_with fail
    refine C1.mono ?_
    rintro e w1 ⟨h1, _⟩
    obtain ⟨rfl, hr1, he1⟩ := h1 _ HR.out
    rw [← HO.out] at he1
    obtain ⟨hrw1, hb1⟩ := H0.out.read hr1 he1
    have C2 := wbyte_any w1 C q vw [] hrw1.wr hrw1.hC (by simp) 0
    have HB := Lib.hid (HB0.out.trans hb1)
    clear h1 C1 hb1 hr1 he1
    unfold errV
    go_wp2_with fail
    refine C2.mono ?_
    rintro e w2 ⟨rfl, vw2, hw2, hwr2⟩
    obtain ⟨hrw2, hb2⟩ := hrw1.write hw2 hwr2
    go_wp2
    go_ret
    exact ag_err hrw2 (HB.out.trans hb2)
  | ok y =>
    obtain ⟨x, c⟩ := y
    obtain ⟨hx, hform⟩ := b_form hres
    have HR := Lib.hid hres
    have HF := Lib.hid hform
    clear hres hform
    go_enter Tryd.func43, Tryd.ntmps43
    go_wp2_with fail
    refine C1.mono ?_
    rintro e w1 ⟨_, h1⟩
    obtain ⟨rfl, hr1, he1⟩ := h1 _ _ HR.out
    rw [← HO.out] at he1
    obtain ⟨hrw1, hb1⟩ := H0.out.read hr1 he1
    have C2 := wbyte_any w1 C q vw [] hrw1.wr hrw1.hC (by simp) (UInt8.ofNat x)
    rw [u8_val x hx] at C2
    have HB := Lib.hid (HB0.out.trans hb1)
    clear h1 C1 hb1 hr1 he1
    go_wp2_with fail
    refine C2.mono ?_
    rintro e w2 ⟨rfl, vw2, hw2, hwr2⟩
    obtain ⟨hrw2, hb2⟩ := hrw1.write hw2 hwr2
    go_wp2
    go_ret
    exact ag_ok hrw2 (HF.out.trans (by simp)) (HB.out.trans hb2)
set_option maxRecDepth 100000 in
set_option maxHeartbeats 1000000 in
theorem again_uv (w : World) (B0 C p q : Nat) (v vw : Value) (bs : List UInt8) (k : Nat) (h : RW w B0 C p q v vw bs k []) (hbs : bs.length ≤ 100000000) (EA : Nat → Addr) (hE : RErr w EA) (hG : GLow B0) (sec b s l : Value) (n i : Int) (u : Int) (hn0 : -9223372036854775808 ≤ n) (hn1 : n ≤ 9223372036854775807) :
    Calls Tryd.prog 43 #[.pointer (some ⟨p, 0, none⟩), .pointer (some ⟨q, 0, none⟩), .agg #[.int .i64 2, sec, .int .i64 n, .int .u64 u, .int .i64 i, b, s, l]] w (AgPost w B0 C p q v bs k) := by
  obtain ⟨o, ho⟩ : ∃ o, o = Obj.cells #[.int .i64 2, sec, .int .i64 n, .int .u64 u, .int .i64 i, b, s, l] 46 := ⟨_, rfl⟩
  have h0 := h.box o
  have hE0 : RErr (w.alloc o) EA := hE.eff ((Eff.refl (fun _ => False) _).alloc _) hG (fun _ f => f.elim)
  have hb0 : Below B0 w (w.alloc o) := (Below.refl _ _).alloc (Nat.le_trans h.hB h.hC) _
  have C1 := ruv_out _ B0 p v bs k h0.r EA hE0
  have hdl : (bs.drop k).length ≤ 100000000 := by rw [List.length_drop]; omega
  have HB0 := Lib.hid hb0
  have H0 := Lib.hid h0
  have HE0 := Lib.hid hE0
  rw [ho] at C1
  have HO := Lib.hid ho
  clear h0 hb0 ho hE hG h hE0
  cases hres : getU (bs.drop k) with
  | error m =>
    have HR := Lib.hid hres
    clear hres
    go_enter Tryd.func43, Tryd.ntmps43
    go_wp2_with fail
    refine C1.mono ?_
    rintro e w1 ⟨h1, _⟩
    obtain ⟨rfl, hr1, he1⟩ := h1 _ HR.out
    rw [← HO.out] at he1
    obtain ⟨hrw1, hb1⟩ := H0.out.read hr1 he1
    have C2 := wuv_any w1 C q vw [] hrw1.wr hrw1.hC (by simp) 0 (by omega)
    have HB := Lib.hid (HB0.out.trans hb1)
    clear h1 C1 hb1 hr1 he1
    unfold errV
    go_wp2_with fail
    refine C2.mono ?_
    rintro e w2 ⟨rfl, vw2, hw2, hwr2⟩
    obtain ⟨hrw2, hb2⟩ := hrw1.write hw2 hwr2
    go_wp2
    go_ret
    exact ag_err hrw2 (HB.out.trans hb2)
  | ok y =>
    obtain ⟨x, c⟩ := y
    obtain ⟨hform, hx, _⟩ := formU hres
    have HR := Lib.hid hres
    have HF := Lib.hid hform
    clear hres hform
    go_enter Tryd.func43, Tryd.ntmps43
    go_wp2_with fail
    refine C1.mono ?_
    rintro e w1 ⟨_, h1⟩
    obtain ⟨rfl, hr1, he1⟩ := h1 _ _ HR.out
    rw [← HO.out] at he1
    obtain ⟨hrw1, hb1⟩ := H0.out.read hr1 he1
    have C2 := wuv_any w1 C q vw [] hrw1.wr hrw1.hC (by simp) x (by omega)
    have HB := Lib.hid (HB0.out.trans hb1)
    clear h1 C1 hb1 hr1 he1
    go_wp2_with fail
    refine C2.mono ?_
    rintro e w2 ⟨rfl, vw2, hw2, hwr2⟩
    obtain ⟨hrw2, hb2⟩ := hrw1.write hw2 hwr2
    go_wp2
    go_ret
    exact ag_ok hrw2 (HF.out.trans (by simp)) (HB.out.trans hb2)
set_option maxRecDepth 100000 in
set_option maxHeartbeats 1000000 in
theorem again_var (w : World) (B0 C p q : Nat) (v vw : Value) (bs : List UInt8) (k : Nat) (h : RW w B0 C p q v vw bs k []) (hbs : bs.length ≤ 100000000) (EA : Nat → Addr) (hE : RErr w EA) (hG : GLow B0) (sec b s l : Value) (n i : Int) (u : Int) (hn0 : -9223372036854775808 ≤ n) (hn1 : n ≤ 9223372036854775807) :
    Calls Tryd.prog 43 #[.pointer (some ⟨p, 0, none⟩), .pointer (some ⟨q, 0, none⟩), .agg #[.int .i64 3, sec, .int .i64 n, .int .u64 u, .int .i64 i, b, s, l]] w (AgPost w B0 C p q v bs k) := by
  obtain ⟨o, ho⟩ : ∃ o, o = Obj.cells #[.int .i64 3, sec, .int .i64 n, .int .u64 u, .int .i64 i, b, s, l] 46 := ⟨_, rfl⟩
  have h0 := h.box o
  have hE0 : RErr (w.alloc o) EA := hE.eff ((Eff.refl (fun _ => False) _).alloc _) hG (fun _ f => f.elim)
  have hb0 : Below B0 w (w.alloc o) := (Below.refl _ _).alloc (Nat.le_trans h.hB h.hC) _
  have C1 := rvar_out _ B0 p v bs k h0.r EA hE0
  have hdl : (bs.drop k).length ≤ 100000000 := by rw [List.length_drop]; omega
  have HB0 := Lib.hid hb0
  have H0 := Lib.hid h0
  have HE0 := Lib.hid hE0
  rw [ho] at C1
  have HO := Lib.hid ho
  clear h0 hb0 ho hE hG h hE0
  cases hres : getU (bs.drop k) with
  | error m =>
    have HR := Lib.hid hres
    clear hres
    go_enter Tryd.func43, Tryd.ntmps43
    go_wp2_with fail
    refine C1.mono ?_
    rintro e w1 ⟨h1, _⟩
    obtain ⟨rfl, hr1, he1⟩ := h1 _ HR.out
    rw [← HO.out] at he1
    obtain ⟨hrw1, hb1⟩ := H0.out.read hr1 he1
    have C2 := wvar_any w1 C q vw [] hrw1.wr hrw1.hC (by simp) 0 (by omega) (by omega)
    have HB := Lib.hid (HB0.out.trans hb1)
    clear h1 C1 hb1 hr1 he1
    unfold errV
    go_wp2_with fail
    refine C2.mono ?_
    rintro e w2 ⟨rfl, vw2, hw2, hwr2⟩
    obtain ⟨hrw2, hb2⟩ := hrw1.write hw2 hwr2
    go_wp2
    go_ret
    exact ag_err hrw2 (HB.out.trans hb2)
  | ok y =>
    obtain ⟨x, c⟩ := y
    obtain ⟨hform, hx, _⟩ := formU hres
    have hz := zagI_bd x (by omega) (by omega)
    have HR := Lib.hid hres
    have HF := Lib.hid hform
    clear hres hform
    go_enter Tryd.func43, Tryd.ntmps43
    go_wp2_with fail
    refine C1.mono ?_
    rintro e w1 ⟨_, h1⟩
    obtain ⟨rfl, hr1, he1⟩ := h1 _ _ HR.out
    rw [← HO.out] at he1
    obtain ⟨hrw1, hb1⟩ := H0.out.read hr1 he1
    have C2 := wvar_any w1 C q vw [] hrw1.wr hrw1.hC (by simp) (zagI x) hz.1 hz.2
    rw [zig_zag x (by omega), Int.toNat_natCast] at C2
    have HB := Lib.hid (HB0.out.trans hb1)
    clear h1 C1 hb1 hr1 he1
    go_wp2_with fail
    refine C2.mono ?_
    rintro e w2 ⟨rfl, vw2, hw2, hwr2⟩
    obtain ⟨hrw2, hb2⟩ := hrw1.write hw2 hwr2
    go_wp2
    go_ret
    exact ag_ok hrw2 (HF.out.trans (by simp)) (HB.out.trans hb2)
set_option maxRecDepth 100000 in
set_option maxHeartbeats 1000000 in
theorem again_upto (w : World) (B0 C p q : Nat) (v vw : Value) (bs : List UInt8) (k : Nat) (h : RW w B0 C p q v vw bs k []) (hbs : bs.length ≤ 100000000) (EA : Nat → Addr) (hE : RErr w EA) (hG : GLow B0) (sec b s l : Value) (n i : Int) (u : Int) (hn0 : -9223372036854775808 ≤ n) (hn1 : n ≤ 9223372036854775807) :
    Calls Tryd.prog 43 #[.pointer (some ⟨p, 0, none⟩), .pointer (some ⟨q, 0, none⟩), .agg #[.int .i64 10, sec, .int .i64 n, .int .u64 u, .int .i64 i, b, s, l]] w (AgPost w B0 C p q v bs k) := by
  obtain ⟨o, ho⟩ : ∃ o, o = Obj.cells #[.int .i64 10, sec, .int .i64 n, .int .u64 u, .int .i64 i, b, s, l] 46 := ⟨_, rfl⟩
  have h0 := h.box o
  have hE0 : RErr (w.alloc o) EA := hE.eff ((Eff.refl (fun _ => False) _).alloc _) hG (fun _ f => f.elim)
  have hb0 : Below B0 w (w.alloc o) := (Below.refl _ _).alloc (Nat.le_trans h.hB h.hC) _
  have C1 := rupto_out _ B0 p v bs k h0.r EA hE0 hG n hn0 hn1
  have hdl : (bs.drop k).length ≤ 100000000 := by rw [List.length_drop]; omega
  have HB0 := Lib.hid hb0
  have H0 := Lib.hid h0
  have HE0 := Lib.hid hE0
  rw [ho] at C1
  have HO := Lib.hid ho
  clear h0 hb0 ho hE hG h hE0
  cases hres : getUpto n (bs.drop k) with
  | error m =>
    have HR := Lib.hid hres
    clear hres
    go_enter Tryd.func43, Tryd.ntmps43
    go_wp2_with fail
    refine C1.mono ?_
    rintro e w1 ⟨h1, _⟩
    obtain ⟨rfl, hr1, he1⟩ := h1 _ HR.out
    rw [← HO.out] at he1
    obtain ⟨hrw1, hb1⟩ := H0.out.read hr1 he1
    have C2 := wuv_any w1 C q vw [] hrw1.wr hrw1.hC (by simp) 0 (by omega)
    have HB := Lib.hid (HB0.out.trans hb1)
    clear h1 C1 hb1 hr1 he1
    unfold errV
    go_wp2_with fail
    refine C2.mono ?_
    rintro e w2 ⟨rfl, vw2, hw2, hwr2⟩
    obtain ⟨hrw2, hb2⟩ := hrw1.write hw2 hwr2
    go_wp2
    go_ret
    exact ag_err hrw2 (HB.out.trans hb2)
  | ok y =>
    obtain ⟨x, c⟩ := y
    obtain ⟨hu, hle⟩ := getUpto_len hres
    obtain ⟨hform, hx, _⟩ := formU hu
    have hx63 : (x : Int) ≤ 9223372036854775807 := by omega
    have HR := Lib.hid hres
    have HF := Lib.hid hform
    clear hres hform
    go_enter Tryd.func43, Tryd.ntmps43
    go_wp2_with fail
    refine C1.mono ?_
    rintro e w1 ⟨_, h1⟩
    obtain ⟨rfl, hr1, he1⟩ := h1 _ _ HR.out
    rw [← HO.out] at he1
    obtain ⟨hrw1, hb1⟩ := H0.out.read hr1 he1
    have C2 := wuv_any w1 C q vw [] hrw1.wr hrw1.hC (by simp) x (by omega)
    have HB := Lib.hid (HB0.out.trans hb1)
    clear h1 C1 hb1 hr1 he1
    go_wp2_with fail
    refine C2.mono ?_
    rintro e w2 ⟨rfl, vw2, hw2, hwr2⟩
    obtain ⟨hrw2, hb2⟩ := hrw1.write hw2 hwr2
    go_wp2
    go_ret
    exact ag_ok hrw2 (HF.out.trans (by simp)) (HB.out.trans hb2)
set_option maxRecDepth 100000 in
set_option maxHeartbeats 1000000 in
theorem again_w32 (w : World) (B0 C p q : Nat) (v vw : Value) (bs : List UInt8) (k : Nat) (h : RW w B0 C p q v vw bs k []) (hbs : bs.length ≤ 100000000) (EA : Nat → Addr) (hE : RErr w EA) (hG : GLow B0) (sec b s l : Value) (n i : Int) (u : Int) (hn0 : -9223372036854775808 ≤ n) (hn1 : n ≤ 9223372036854775807) :
    Calls Tryd.prog 43 #[.pointer (some ⟨p, 0, none⟩), .pointer (some ⟨q, 0, none⟩), .agg #[.int .i64 4, sec, .int .i64 n, .int .u64 u, .int .i64 i, b, s, l]] w (AgPost w B0 C p q v bs k) := by
  obtain ⟨o, ho⟩ : ∃ o, o = Obj.cells #[.int .i64 4, sec, .int .i64 n, .int .u64 u, .int .i64 i, b, s, l] 46 := ⟨_, rfl⟩
  have h0 := h.box o
  have hE0 : RErr (w.alloc o) EA := hE.eff ((Eff.refl (fun _ => False) _).alloc _) hG (fun _ f => f.elim)
  have hb0 : Below B0 w (w.alloc o) := (Below.refl _ _).alloc (Nat.le_trans h.hB h.hC) _
  have C1 := r32_out _ B0 p v bs k h0.r EA hE0
  have hdl : (bs.drop k).length ≤ 100000000 := by rw [List.length_drop]; omega
  have HB0 := Lib.hid hb0
  have H0 := Lib.hid h0
  have HE0 := Lib.hid hE0
  rw [ho] at C1
  have HO := Lib.hid ho
  clear h0 hb0 ho hE hG h hE0
  cases hres : getW 4 (bs.drop k) with
  | error m =>
    have HR := Lib.hid hres
    clear hres
    go_enter Tryd.func43, Tryd.ntmps43
    go_wp2_with fail
    refine C1.mono ?_
    rintro e w1 ⟨h1, _⟩
    obtain ⟨rfl, hr1, he1⟩ := h1 _ HR.out
    rw [← HO.out] at he1
    obtain ⟨hrw1, hb1⟩ := H0.out.read hr1 he1
    have C2 := w32_any w1 C q vw [] hrw1.wr hrw1.hC (by simp) 0 (by omega)
    have HB := Lib.hid (HB0.out.trans hb1)
    clear h1 C1 hb1 hr1 he1
    unfold errV
    go_wp2_with fail
    refine C2.mono ?_
    rintro e w2 ⟨rfl, vw2, hw2, hwr2⟩
    obtain ⟨hrw2, hb2⟩ := hrw1.write hw2 hwr2
    go_wp2
    go_ret
    exact ag_err hrw2 (HB.out.trans hb2)
  | ok y =>
    obtain ⟨x, c⟩ := y
    obtain ⟨hform, hx⟩ := w_form hres
    have hx2 : (x : Int) ≤ 4294967295 := by omega
    have HR := Lib.hid hres
    have HF := Lib.hid hform
    clear hres hform
    go_enter Tryd.func43, Tryd.ntmps43
    go_wp2_with fail
    refine C1.mono ?_
    rintro e w1 ⟨_, h1⟩
    obtain ⟨rfl, hr1, he1⟩ := h1 _ _ HR.out
    rw [← HO.out] at he1
    obtain ⟨hrw1, hb1⟩ := H0.out.read hr1 he1
    have C2 := w32_any w1 C q vw [] hrw1.wr hrw1.hC (by simp) x hx2
    have HB := Lib.hid (HB0.out.trans hb1)
    clear h1 C1 hb1 hr1 he1
    go_wp2_with fail
    refine C2.mono ?_
    rintro e w2 ⟨rfl, vw2, hw2, hwr2⟩
    obtain ⟨hrw2, hb2⟩ := hrw1.write hw2 hwr2
    go_wp2
    go_ret
    exact ag_ok hrw2 (HF.out.trans (by simp)) (HB.out.trans hb2)
set_option maxRecDepth 100000 in
set_option maxHeartbeats 1000000 in
theorem again_w64 (w : World) (B0 C p q : Nat) (v vw : Value) (bs : List UInt8) (k : Nat) (h : RW w B0 C p q v vw bs k []) (hbs : bs.length ≤ 100000000) (EA : Nat → Addr) (hE : RErr w EA) (hG : GLow B0) (sec b s l : Value) (n i : Int) (u : Int) (hn0 : -9223372036854775808 ≤ n) (hn1 : n ≤ 9223372036854775807) :
    Calls Tryd.prog 43 #[.pointer (some ⟨p, 0, none⟩), .pointer (some ⟨q, 0, none⟩), .agg #[.int .i64 5, sec, .int .i64 n, .int .u64 u, .int .i64 i, b, s, l]] w (AgPost w B0 C p q v bs k) := by
  obtain ⟨o, ho⟩ : ∃ o, o = Obj.cells #[.int .i64 5, sec, .int .i64 n, .int .u64 u, .int .i64 i, b, s, l] 46 := ⟨_, rfl⟩
  have h0 := h.box o
  have hE0 : RErr (w.alloc o) EA := hE.eff ((Eff.refl (fun _ => False) _).alloc _) hG (fun _ f => f.elim)
  have hb0 : Below B0 w (w.alloc o) := (Below.refl _ _).alloc (Nat.le_trans h.hB h.hC) _
  have C1 := r64_out _ B0 p v bs k h0.r EA hE0
  have hdl : (bs.drop k).length ≤ 100000000 := by rw [List.length_drop]; omega
  have HB0 := Lib.hid hb0
  have H0 := Lib.hid h0
  have HE0 := Lib.hid hE0
  rw [ho] at C1
  have HO := Lib.hid ho
  clear h0 hb0 ho hE hG h hE0
  cases hres : getW 8 (bs.drop k) with
  | error m =>
    have HR := Lib.hid hres
    clear hres
    go_enter Tryd.func43, Tryd.ntmps43
    go_wp2_with fail
    refine C1.mono ?_
    rintro e w1 ⟨h1, _⟩
    obtain ⟨rfl, hr1, he1⟩ := h1 _ HR.out
    rw [← HO.out] at he1
    obtain ⟨hrw1, hb1⟩ := H0.out.read hr1 he1
    have C2 := w64_any w1 C q vw [] hrw1.wr hrw1.hC (by simp) 0 (by omega)
    have HB := Lib.hid (HB0.out.trans hb1)
    clear h1 C1 hb1 hr1 he1
    unfold errV
    go_wp2_with fail
    refine C2.mono ?_
    rintro e w2 ⟨rfl, vw2, hw2, hwr2⟩
    obtain ⟨hrw2, hb2⟩ := hrw1.write hw2 hwr2
    go_wp2
    go_ret
    exact ag_err hrw2 (HB.out.trans hb2)
  | ok y =>
    obtain ⟨x, c⟩ := y
    obtain ⟨hform, hx⟩ := w_form hres
    have hx2 : (x : Int) ≤ 18446744073709551615 := by omega
    have HR := Lib.hid hres
    have HF := Lib.hid hform
    clear hres hform
    go_enter Tryd.func43, Tryd.ntmps43
    go_wp2_with fail
    refine C1.mono ?_
    rintro e w1 ⟨_, h1⟩
    obtain ⟨rfl, hr1, he1⟩ := h1 _ _ HR.out
    rw [← HO.out] at he1
    obtain ⟨hrw1, hb1⟩ := H0.out.read hr1 he1
    have C2 := w64_any w1 C q vw [] hrw1.wr hrw1.hC (by simp) x hx2
    have HB := Lib.hid (HB0.out.trans hb1)
    clear h1 C1 hb1 hr1 he1
    go_wp2_with fail
    refine C2.mono ?_
    rintro e w2 ⟨rfl, vw2, hw2, hwr2⟩
    obtain ⟨hrw2, hb2⟩ := hrw1.write hw2 hwr2
    go_wp2
    go_ret
    exact ag_ok hrw2 (HF.out.trans (by simp)) (HB.out.trans hb2)
set_option maxRecDepth 100000 in
set_option maxHeartbeats 1000000 in
theorem again_raw (w : World) (B0 C p q : Nat) (v vw : Value) (bs : List UInt8) (k : Nat) (h : RW w B0 C p q v vw bs k []) (hbs : bs.length ≤ 100000000) (EA : Nat → Addr) (hE : RErr w EA) (hG : GLow B0) (sec b s l : Value) (n i : Int) (u : Int) (hn0 : -9223372036854775808 ≤ n) (hn1 : n ≤ 9223372036854775807) :
    Calls Tryd.prog 43 #[.pointer (some ⟨p, 0, none⟩), .pointer (some ⟨q, 0, none⟩), .agg #[.int .i64 6, sec, .int .i64 n, .int .u64 u, .int .i64 i, b, s, l]] w (AgPost w B0 C p q v bs k) := by
  obtain ⟨o, ho⟩ : ∃ o, o = Obj.cells #[.int .i64 6, sec, .int .i64 n, .int .u64 u, .int .i64 i, b, s, l] 46 := ⟨_, rfl⟩
  have h0 := h.box o
  have hE0 : RErr (w.alloc o) EA := hE.eff ((Eff.refl (fun _ => False) _).alloc _) hG (fun _ f => f.elim)
  have hb0 : Below B0 w (w.alloc o) := (Below.refl _ _).alloc (Nat.le_trans h.hB h.hC) _
  have C1 := rraw_any _ B0 p v bs k h0.r EA hE0 n hn0 hn1
  have hdl : (bs.drop k).length ≤ 100000000 := by rw [List.length_drop]; omega
  have HB0 := Lib.hid hb0
  have H0 := Lib.hid h0
  have HE0 := Lib.hid hE0
  rw [ho] at C1
  have HO := Lib.hid ho
  clear h0 hb0 ho hE hG h hE0
  cases hres : getRaw n (bs.drop k) with
  | error m =>
    have HR := Lib.hid hres
    clear hres
    go_enter Tryd.func43, Tryd.ntmps43
    go_wp2_with fail
    refine C1.mono ?_
    rintro e w1 ⟨h1, _⟩
    obtain ⟨rfl, hr1, he1⟩ := h1 _ HR.out
    rw [← HO.out] at he1
    obtain ⟨hrw1, hb1⟩ := H0.out.read hr1 he1
    have C2 := wraw_any w1 C q vw [] hrw1.wr hrw1.hC (by simp) (.slice none 0 0) [] ((own_nil w1 0 5).rd) (by simp)
    have HB := Lib.hid (HB0.out.trans hb1)
    clear h1 C1 hb1 hr1 he1
    unfold errV
    go_wp2_with fail
    refine C2.mono ?_
    rintro e w2 ⟨rfl, vw2, hw2, hwr2⟩
    obtain ⟨hrw2, hb2⟩ := hrw1.write hw2 hwr2
    go_wp2
    go_ret
    exact ag_err hrw2 (HB.out.trans hb2)
  | ok y =>
    obtain ⟨x, c⟩ := y
    have hform := raw_form hres
    have hxl : x.length ≤ 100000000 := by rw [← hform, List.length_take]; omega
    have HR := Lib.hid hres
    have HF := Lib.hid hform
    clear hres hform
    go_enter Tryd.func43, Tryd.ntmps43
    go_wp2_with fail
    refine C1.mono ?_
    rintro e w1 ⟨_, h1⟩
    obtain ⟨v', rfl, ho1, hr1, he1⟩ := h1 _ _ HR.out
    rw [← HO.out] at he1
    obtain ⟨hrw1, hb1⟩ := H0.out.read hr1 he1
    obtain ⟨a1, n1, c1, rfl⟩ := own_sl ho1
    have C2 := wraw_any w1 C q vw [] hrw1.wr hrw1.hC (by simp) _ x ho1.rd (by omega)
    clear ho1
    have HB := Lib.hid (HB0.out.trans hb1)
    clear h1 C1 hb1 hr1 he1
    go_wp2_with fail
    refine C2.mono ?_
    rintro e w2 ⟨rfl, vw2, hw2, hwr2⟩
    obtain ⟨hrw2, hb2⟩ := hrw1.write hw2 hwr2
    go_wp2
    go_ret
    exact ag_ok hrw2 (HF.out.trans (by simp)) (HB.out.trans hb2)
set_option maxRecDepth 100000 in
set_option maxHeartbeats 1000000 in
theorem again_text (w : World) (B0 C p q : Nat) (v vw : Value) (bs : List UInt8) (k : Nat) (h : RW w B0 C p q v vw bs k []) (hbs : bs.length ≤ 100000000) (EA : Nat → Addr) (hE : RErr w EA) (hG : GLow B0) (sec b s l : Value) (n i : Int) (u : Int) (hn0 : -9223372036854775808 ≤ n) (hn1 : n ≤ 9223372036854775807) :
    Calls Tryd.prog 43 #[.pointer (some ⟨p, 0, none⟩), .pointer (some ⟨q, 0, none⟩), .agg #[.int .i64 7, sec, .int .i64 n, .int .u64 u, .int .i64 i, b, s, l]] w (AgPost w B0 C p q v bs k) := by
  obtain ⟨o, ho⟩ : ∃ o, o = Obj.cells #[.int .i64 7, sec, .int .i64 n, .int .u64 u, .int .i64 i, b, s, l] 46 := ⟨_, rfl⟩
  have h0 := h.box o
  have hE0 : RErr (w.alloc o) EA := hE.eff ((Eff.refl (fun _ => False) _).alloc _) hG (fun _ f => f.elim)
  have hb0 : Below B0 w (w.alloc o) := (Below.refl _ _).alloc (Nat.le_trans h.hB h.hC) _
  have C1 := rtext_any _ B0 p v bs k h0.r EA hE0 hG n hn0 hn1
  have hdl : (bs.drop k).length ≤ 100000000 := by rw [List.length_drop]; omega
  have HB0 := Lib.hid hb0
  have H0 := Lib.hid h0
  have HE0 := Lib.hid hE0
  rw [ho] at C1
  have HO := Lib.hid ho
  clear h0 hb0 ho hE hG h hE0
  cases hres : getText n (bs.drop k) with
  | error m =>
    have HR := Lib.hid hres
    clear hres
    go_enter Tryd.func43, Tryd.ntmps43
    go_wp2_with fail
    refine C1.mono ?_
    rintro e w1 ⟨h1, _⟩
    obtain ⟨rfl, hr1, he1⟩ := h1 _ HR.out
    rw [← HO.out] at he1
    obtain ⟨hrw1, hb1⟩ := H0.out.read hr1 he1
    have C2 := wtext_any w1 C q vw [] hrw1.wr hrw1.hC (by simp) ⟨#[]⟩ (by decide)
    have HB := Lib.hid (HB0.out.trans hb1)
    clear h1 C1 hb1 hr1 he1
    unfold errV
    go_wp2_with fail
    refine C2.mono ?_
    rintro e w2 ⟨rfl, vw2, hw2, hwr2⟩
    obtain ⟨hrw2, hb2⟩ := hrw1.write hw2 hwr2
    go_wp2
    go_ret
    exact ag_err hrw2 (HB.out.trans hb2)
  | ok y =>
    obtain ⟨x, c⟩ := y
    have hform := text_form hres
    have hxl : x.length ≤ 100000000 := by have := congrArg List.length hform; rw [List.length_take, List.length_append] at this; omega
    have HR := Lib.hid hres
    have HF := Lib.hid hform
    clear hres hform
    go_enter Tryd.func43, Tryd.ntmps43
    go_wp2_with fail
    refine C1.mono ?_
    rintro e w1 ⟨_, h1⟩
    obtain ⟨rfl, hr1, he1⟩ := h1 _ _ HR.out
    rw [← HO.out] at he1
    obtain ⟨hrw1, hb1⟩ := H0.out.read hr1 he1
    have C2 := wtext_any w1 C q vw [] hrw1.wr hrw1.hC (by simp) (strOf x) (by rw [strOf_size]; omega)
    rw [strOf_size, show (strOf x).data.toList = x from rfl] at C2
    have HB := Lib.hid (HB0.out.trans hb1)
    clear h1 C1 hb1 hr1 he1
    go_wp2_with fail
    refine C2.mono ?_
    rintro e w2 ⟨rfl, vw2, hw2, hwr2⟩
    obtain ⟨hrw2, hb2⟩ := hrw1.write hw2 hwr2
    go_wp2
    go_ret
    exact ag_ok hrw2 (HF.out.trans (by simp)) (HB.out.trans hb2)
set_option maxRecDepth 100000 in
set_option maxHeartbeats 1000000 in
theorem again_ris (w : World) (B0 C p q : Nat) (v vw : Value) (bs : List UInt8) (k : Nat) (h : RW w B0 C p q v vw bs k []) (hbs : bs.length ≤ 100000000) (EA : Nat → Addr) (hE : RErr w EA) (hG : GLow B0) (sec b s l : Value) (n i : Int) (u : Int) (hn0 : -9223372036854775808 ≤ n) (hn1 : n ≤ 9223372036854775807) :
    Calls Tryd.prog 43 #[.pointer (some ⟨p, 0, none⟩), .pointer (some ⟨q, 0, none⟩), .agg #[.int .i64 8, sec, .int .i64 n, .int .u64 u, .int .i64 i, b, s, l]] w (AgPost w B0 C p q v bs k) := by
  obtain ⟨o, ho⟩ : ∃ o, o = Obj.cells #[.int .i64 8, sec, .int .i64 n, .int .u64 u, .int .i64 i, b, s, l] 46 := ⟨_, rfl⟩
  have h0 := h.box o
  have hE0 : RErr (w.alloc o) EA := hE.eff ((Eff.refl (fun _ => False) _).alloc _) hG (fun _ f => f.elim)
  have hb0 : Below B0 w (w.alloc o) := (Below.refl _ _).alloc (Nat.le_trans h.hB h.hC) _
  have C1 := rris_out _ B0 p v bs k h0.r (Nat.le_trans h0.hB h0.hC) EA hE0 hG n hn0 hn1
  have hdl : (bs.drop k).length ≤ 100000000 := by rw [List.length_drop]; omega
  have HB0 := Lib.hid hb0
  have H0 := Lib.hid h0
  have HE0 := Lib.hid hE0
  have HG := Lib.hid hG
  rw [ho] at C1
  have HO := Lib.hid ho
  clear h0 hb0 ho hE hG h hE0
  cases hres : getRis n (bs.drop k) with
  | error m =>
    have HR := Lib.hid hres
    clear hres
    go_enter Tryd.func43, Tryd.ntmps43
    go_wp2_with fail
    refine C1.mono ?_
    rintro e w1 ⟨h1, _⟩
    obtain ⟨rfl, ⟨k', hk', hr1⟩, he1⟩ := h1 _ HR.out
    rw [← HO.out] at he1
    obtain ⟨hrw1, hb1⟩ := H0.out.read hr1 he1
    obtain rfl := hk' rfl
    have hE1 := HE0.out.eff he1 HG.out (fun j hj => by subst hj; exact hr1.hp)
    have C2 := wris_any w1 C q vw [] hrw1.wr hrw1.hC (by simp) none 0 0 [] ((own_nil w1 0 3).rd) (by simp) (fun z hz => by cases hz) _ _ hE1.r hE1.o (fun h0 => by simp at h0)
    clear hE1
    have HB := Lib.hid (HB0.out.trans hb1)
    clear h1 C1 hb1 hr1 he1
    unfold errV
    go_wp2_with fail
    refine C2.mono ?_
    rintro e w2 ⟨_, _, h3⟩
    obtain ⟨rfl, vw2, hw2, hwr2⟩ := h3 rfl (fun i hi => by simp at hi)
    obtain ⟨hrw2, hb2⟩ := hrw1.write hw2 hwr2
    go_wp2
    go_ret
    exact ag_err hrw2 (HB.out.trans hb2)
  | ok y =>
    obtain ⟨x, c⟩ := y
    obtain ⟨hform, hasc⟩ := ris_form hres
    have hxl : x.length ≤ 100000000 := by
      have := congrArg List.length hform; rw [List.length_take, risB, List.length_append] at this
      have := gapsB_ge (-1) x; omega
    have HR := Lib.hid hres
    have HF := Lib.hid hform
    clear hres hform
    go_enter Tryd.func43, Tryd.ntmps43
    go_wp2_with fail
    refine C1.mono ?_
    rintro e w1 ⟨_, h1⟩
    obtain ⟨v', rfl, ho1, hr1, he1⟩ := h1 _ _ HR.out
    rw [← HO.out] at he1
    obtain ⟨hrw1, hb1⟩ := H0.out.read hr1 he1
    rw [← HO.out] at ho1
    obtain ⟨a1, n1, c1, rfl⟩ := own_sl ho1
    have hE1 := HE0.out.eff he1 HG.out (fun j hj => by subst hj; exact hr1.hp)
    have hoff : 0 < x.length → ∀ b o, a1 = some ⟨b, o, none⟩ → ¬ WrB q vw b := by
      rintro _ b o rfl hb
      have h5 := (H0.out.wr.ge b hb).2
      have h6 := own_ge ho1
      omega
    have C2 := wris_any w1 C q vw [] hrw1.wr hrw1.hC (by simp) a1 n1 c1 x ho1.rd (by omega) (asc_fit hasc) _ _ hE1.r hE1.o hoff
    clear ho1 hE1 hoff
    have HB := Lib.hid (HB0.out.trans hb1)
    clear h1 C1 hb1 hr1 he1
    go_wp2_with fail
    refine C2.mono ?_
    rintro e w2 ⟨_, _, h3⟩
    obtain ⟨rfl, vw2, hw2, hwr2⟩ := h3 (asc_neg hasc) (asc_rises hasc)
    obtain ⟨hrw2, hb2⟩ := hrw1.write hw2 hwr2
    go_wp2
    go_ret
    exact ag_ok hrw2 (HF.out.trans (by simp)) (HB.out.trans hb2)
set_option maxRecDepth 100000 in
set_option maxHeartbeats 1000000 in
theorem again_pck (w : World) (B0 C p q : Nat) (v vw : Value) (bs : List UInt8) (k : Nat) (h : RW w B0 C p q v vw bs k []) (hbs : bs.length ≤ 100000000) (EA : Nat → Addr) (hE : RErr w EA) (hG : GLow B0) (sec b s l : Value) (n i : Int) (u : Int) (hn0 : -9223372036854775808 ≤ n) (hn1 : n ≤ 9223372036854775807) :
    Calls Tryd.prog 43 #[.pointer (some ⟨p, 0, none⟩), .pointer (some ⟨q, 0, none⟩), .agg #[.int .i64 9, sec, .int .i64 n, .int .u64 u, .int .i64 i, b, s, l]] w (AgPost w B0 C p q v bs k) := by
  obtain ⟨o, ho⟩ : ∃ o, o = Obj.cells #[.int .i64 9, sec, .int .i64 n, .int .u64 u, .int .i64 i, b, s, l] 46 := ⟨_, rfl⟩
  have h0 := h.box o
  have hE0 : RErr (w.alloc o) EA := hE.eff ((Eff.refl (fun _ => False) _).alloc _) hG (fun _ f => f.elim)
  have hb0 : Below B0 w (w.alloc o) := (Below.refl _ _).alloc (Nat.le_trans h.hB h.hC) _
  have C1 := rpck_out _ B0 p v bs k h0.r (Nat.le_trans h0.hB h0.hC) EA hE0 hG n hn0 hn1
  have hdl : (bs.drop k).length ≤ 100000000 := by rw [List.length_drop]; omega
  have HB0 := Lib.hid hb0
  have H0 := Lib.hid h0
  have HE0 := Lib.hid hE0
  rw [ho] at C1
  have HO := Lib.hid ho
  clear h0 hb0 ho hE hG h hE0
  cases hres : toI (getPk n (bs.drop k)) with
  | error m =>
    have HR := Lib.hid hres
    clear hres
    go_enter Tryd.func43, Tryd.ntmps43
    go_wp2_with fail
    refine C1.mono ?_
    rintro e w1 ⟨h1, _⟩
    obtain ⟨rfl, ⟨k', hk', hr1⟩, he1⟩ := h1 _ HR.out
    rw [← HO.out] at he1
    obtain ⟨hrw1, hb1⟩ := H0.out.read hr1 he1
    obtain rfl := hk' rfl
    have C2 := wpck_ok w1 C q vw [] hrw1.wr hrw1.hC (by simp) none 0 0 [] ((own_nil w1 0 3).rd) (by simp) (fun z hz => by cases hz) (.inl rfl) (fun h0 => by simp at h0)
    have HB := Lib.hid (HB0.out.trans hb1)
    clear h1 C1 hb1 hr1 he1
    unfold errV
    go_wp2_with fail
    refine C2.mono ?_
    rintro e w2 ⟨rfl, vw2, hw2, hwr2⟩
    obtain ⟨hrw2, hb2⟩ := hrw1.write hw2 hwr2
    go_wp2
    go_ret
    exact ag_err hrw2 (HB.out.trans hb2)
  | ok y =>
    obtain ⟨x, c⟩ := y
    obtain ⟨r, rfl, hpk⟩ := toI_ok hres
    obtain ⟨hform, hfit, hcase⟩ := pk_form hpk
    have hxl := pck_len hform hcase hdl
    have HR := Lib.hid hres
    have HF := Lib.hid hform
    clear hres hform
    go_enter Tryd.func43, Tryd.ntmps43
    go_wp2_with fail
    refine C1.mono ?_
    rintro e w1 ⟨_, h1⟩
    obtain ⟨v', rfl, ho1, hr1, he1⟩ := h1 _ _ HR.out
    rw [← HO.out] at he1
    obtain ⟨hrw1, hb1⟩ := H0.out.read hr1 he1
    rw [← HO.out] at ho1
    obtain ⟨a1, n1, c1, rfl⟩ := own_sl ho1
    have hoff : 0 < r.length → ∀ b o, a1 = some ⟨b, o, none⟩ → ¬ WrB q vw b := by
      rintro _ b o rfl hb
      have h5 := (H0.out.wr.ge b hb).2
      have h6 := own_ge ho1
      omega
    have C2 := wpck_ok w1 C q vw [] hrw1.wr hrw1.hC (by simp) a1 n1 c1 r ho1.rd (by omega) hfit hcase hoff
    clear ho1 hoff
    have HB := Lib.hid (HB0.out.trans hb1)
    clear h1 C1 hb1 hr1 he1
    go_wp2_with fail
    refine C2.mono ?_
    rintro e w2 ⟨rfl, vw2, hw2, hwr2⟩
    obtain ⟨hrw2, hb2⟩ := hrw1.write hw2 hwr2
    go_wp2
    go_ret
    exact ag_ok hrw2 (HF.out.trans (by simp)) (HB.out.trans hb2)
set_option maxRecDepth 100000 in
theorem again_else (w : World) (B0 C p q : Nat) (v vw : Value) (bs : List UInt8) (k : Nat) (h : RW w B0 C p q v vw bs k []) (sec b s l : Value) (kd n i : Int) (u : Int) (hk : kd < 1 ∨ 10 < kd) :
    Calls Tryd.prog 43 #[.pointer (some ⟨p, 0, none⟩), .pointer (some ⟨q, 0, none⟩), .agg #[.int .i64 kd, sec, .int .i64 n, .int .u64 u, .int .i64 i, b, s, l]] w (AgPost w B0 C p q v bs k) := by
  have t1 : (kd == 1) = false := by simp; omega
  have t2 : (kd == 2) = false := by simp; omega
  have t3 : (kd == 3) = false := by simp; omega
  have t4 : (kd == 4) = false := by simp; omega
  have t5 : (kd == 5) = false := by simp; omega
  have t6 : (kd == 6) = false := by simp; omega
  have t7 : (kd == 7) = false := by simp; omega
  have t8 : (kd == 8) = false := by simp; omega
  have t9 : (kd == 9) = false := by simp; omega
  have t10 : (kd == 10) = false := by simp; omega
  have hb0 : ∀ o, Below B0 w (w.alloc o) := fun o => (Below.refl _ _).alloc (Nat.le_trans h.hB h.hC) _
  have HB0 := Lib.hid hb0
  have H0 := Lib.hid (fun o => h.box o)
  clear hb0 h hk
  go_enter Tryd.func43, Tryd.ntmps43
  go_wp2
  go_ret
  exact ag_err (H0.out _) (HB0.out _)
end Go.Proofs.YtmmflhippbegaaaDoor
