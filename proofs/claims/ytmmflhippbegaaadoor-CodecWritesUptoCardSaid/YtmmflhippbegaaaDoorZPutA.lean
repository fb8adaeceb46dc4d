/- put: a call over a Writer, and what the document puts: of whatever Op. -/
import Derived.Test.YtmmflhippbegaaaDoorZPutR
import Derived.Test.YtmmflhippbegaaaDoorZPutI
import Derived.Test.YtmmflhippbegaaaDoorZRow8
namespace Go.Proofs.YtmmflhippbegaaaDoor
set_option linter.unusedVariables false
open Go.ChangeShapes Go.WideShapes Go.ChangeAt Go.RowKit

/-- The same, of however many bytes. -/
def PutE (w : World) (base p : Nat) (v : Value) (bs : List UInt8) (N : Nat) (e : Ending) (w' : World) : Prop := ∃ nb, nb.length ≤ N ∧ PutW w base p v bs nb e w'
set_option maxRecDepth 100000 in
theorem pw_list (w : World) (base p : Nat) (v : Value) (bs : List UInt8) (h : Wr w base p v bs) (kd n u i : Int) (sec b s l : Value) (N : Nat) (hk : kd < 1 ∨ 7 < kd)
    (C : Calls Tryd.prog 62 #[.pointer (some ⟨p, 0, none⟩), .agg #[.int .i64 kd, sec, .int .i64 n, .int .u64 u, .int .i64 i, b, s, l]] (w.alloc (.cells #[.int .i64 kd, sec, .int .i64 n, .int .u64 u, .int .i64 i, b, s, l] 46)) (PutE (w.alloc (.cells #[.int .i64 kd, sec, .int .i64 n, .int .u64 u, .int .i64 i, b, s, l] 46)) base p v bs N)) :
    Calls Tryd.prog 20 #[.pointer (some ⟨p, 0, none⟩), .agg #[.int .i64 kd, sec, .int .i64 n, .int .u64 u, .int .i64 i, b, s, l]] w (PutE w base p v bs N) := by
  have t1 : (kd == 1) = false := by simp; omega
  have t2 : (kd == 2) = false := by simp; omega
  have t3 : (kd == 3) = false := by simp; omega
  have t4 : (kd == 4) = false := by simp; omega
  have t5 : (kd == 5) = false := by simp; omega
  have t6 : (kd == 6) = false := by simp; omega
  have t7 : (kd == 7) = false := by simp; omega
  have HB := Lib.hid (fun o => h.box o)
  clear h hk
  go_enter Tryd.func20, Tryd.ntmps20
  go_wp2_with fail
  refine C.mono ?_
  rintro e w1 ⟨nb, hl, va, v1, rfl, ho, hw, hwr⟩
  have hall := (HB.out _).2.trans hwr
  have ho' := own_base ho (show w.heap.size ≤ _ by simp)
  go_wp2
  go_ret2
  exact ⟨nb, hl, va, v1, rfl, ho', hw, hall⟩
theorem pw_any (w0 w : World) (base p : Nat) (v : Value) (bs : List UInt8) (h : Wr w base p v bs) (h0 : w0.heap.size ≤ base) (hb : base ≤ w.heap.size) (hbel : Below w0.heap.size w0 w) (hl : bs.length ≤ 1000000000) (o : OpV) (bl : List UInt8) (l : List Int)
    (ho : OpRd w0 w0.heap.size o bl l) (EA : Nat → Addr) (hE : Sent w0 EA) :
    Calls Tryd.prog 20 #[.pointer (some ⟨p, 0, none⟩), .agg o.cells.toArray] w (PutE w base p v bs (40 * wgt o)) := by
  have hbn : o.bn = bl.length := by obtain ⟨A, c, e, _⟩ := ho.rb; injection e with _ e _; rw [e, bytesV_length]
  have hln : o.ln = l.length := by obtain ⟨A, c, e, _⟩ := ho.rl; injection e with _ e _; rw [e, intL_length]
  have hw1 : o.bn < wgt o ∧ o.ln < wgt o ∧ o.s.size < wgt o := by unfold wgt; omega
  obtain ⟨kd, sec, n, u, i, ba, bn, bc, s, la, ln, lc⟩ := o
  simp only at hbn hln hw1
  subst hbn hln
  obtain ⟨m, rfl⟩ : ∃ m : Nat, u = m := ⟨u.toNat, by have : 0 ≤ u := ho.u.1; omega⟩
  have hm : (m : Int) ≤ 18446744073709551615 := ho.u.2
  have hsl := ho.sl
  have hsb := ho.sb
  have hss : s.size ≤ 1048576 := ho.ss
  have hrb : Rd w (.slice ba bl.length bc) (bytesV bl) := ho.rb.below hbel (Nat.le_refl _)
  have hlow : 0 < bl.length → ∀ b f, ba = some ⟨b, f, none⟩ → b < base := fun z b f e => Nat.lt_of_lt_of_le (ho.lb z b f e) h0
  have H := fun (kd : Int) (hk : kd < 1 ∨ 7 < kd) C => pw_list w base p v bs h kd n m i (.bool sec) (.slice ba bl.length bc) (.string s) (.slice la l.length lc) (40 * wgt ⟨kd, sec, n, (m : Int), i, ba, bl.length, bc, s, la, l.length, lc⟩) hk C
  have hbx := h.box (.cells #[.int .i64 kd, .bool sec, .int .i64 n, .int .u64 m, .int .i64 i, .slice ba bl.length bc, .string s, .slice la l.length lc] 46)
  by_cases h8 : kd = 8
  · subst h8
    exact H 8 (.inr (by decide)) ((pl_ris w0 _ base p v bs hbx.1 h0 (by simp; omega) (hbel.alloc hbel.size _) hl _ _ _ n m i la _ lc l ho.rl (by omega) ho.fit EA hE).mono fun e w' ⟨nb, h1, h2⟩ => ⟨nb, by omega, h2⟩)
  by_cases h9 : kd = 9
  · subst h9
    exact H 9 (.inr (by decide)) ((pl_pck w0 _ base p v bs hbx.1 h0 (by simp; omega) (hbel.alloc hbel.size _) hl _ _ _ n m i la _ lc l ho.rl (by omega) ho.fit EA hE).mono fun e w' ⟨nb, h1, h2⟩ => ⟨nb, by omega, h2⟩)
  by_cases hk : kd < 1 ∨ 7 < kd
  · exact H kd hk ((pl_else w0 _ base p v bs hbx.1 h0 (by simp; omega) (hbel.alloc hbel.size _) hl _ _ _ kd n m i h8 h9 la _ lc l ho.rl (by omega) ho.fit EA hE).mono fun e w' ⟨nb, h1, h2⟩ => ⟨nb, by omega, h2⟩)
  have hc : kd = 1 ∨ kd = 2 ∨ kd = 3 ∨ kd = 4 ∨ kd = 5 ∨ kd = 6 ∨ kd = 7 := by omega
  have u1 := (uvar_le m (by omega)).2
  have u2 := (uvar_le (zigI i).toNat (by have := zigI_bd i ho.i.1 ho.i.2; omega)).2
  have u3 := (uvar_le s.size (by omega)).2
  have es : s.size = s.data.toList.length := (Array.length_toList (xs := s.data)).symm
  rcases hc with rfl | rfl | rfl | rfl | rfl | rfl | rfl
  · exact (pw_byte w base p v bs h hb hl (.bool sec) _ (.string s) _ n m i).mono fun e w' h => ⟨_, by simp; omega, h⟩
  · exact (pw_uv w base p v bs h hb hl (.bool sec) _ (.string s) _ n m i m hm).mono fun e w' h => ⟨_, by omega, h⟩
  · exact (pw_var w base p v bs h hb hl (.bool sec) _ (.string s) _ n m i ho.i.1 ho.i.2).mono fun e w' h => ⟨_, by omega, h⟩
  · exact (pw_w32 w base p v bs h hb hl (.bool sec) _ (.string s) _ n m i m hm).mono fun e w' h => ⟨_, by rw [leB_length]; omega, h⟩
  · exact (pw_w64 w base p v bs h hb hl (.bool sec) _ (.string s) _ n m i m hm).mono fun e w' h => ⟨_, by rw [leB_length]; omega, h⟩
  · exact (pw_raw w base p v bs h hb hl (.bool sec) (.string s) (.slice la l.length lc) n m i ba _ bc bl hrb (by omega) hlow).mono fun e w' h => ⟨_, by omega, h⟩
  · exact (pw_text w base p v bs h hb hl (.bool sec) _ (.string s) _ n m i s (by omega)).mono fun e w' h => ⟨_, by rw [List.length_append]; omega, h⟩
end Go.Proofs.YtmmflhippbegaaaDoor
