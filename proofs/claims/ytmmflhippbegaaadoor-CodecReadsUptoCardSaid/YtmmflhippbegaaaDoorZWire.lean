/- One Op: its bytes; write, readsBack and shorts of whatever Op. -/
import Derived.Test.YtmmflhippbegaaaDoorZG7
namespace Go.Proofs.YtmmflhippbegaaaDoor
set_option linter.unusedVariables false
open Go.ChangeShapes Go.WideShapes Go.ChangeAt Go.RowKit

/-- What write puts of an Op that holds the bytes bl and the list l. -/
def wire (o : OpV) (bl : List UInt8) (l : List Int) : List UInt8 :=
  if o.kd = 1 then [UInt8.ofNat (o.n % 256).toNat] else if o.kd = 2 then uvar o.u.toNat else if o.kd = 3 then uvar (zigI o.i).toNat
  else if o.kd = 4 then leB 4 (o.u.toNat % 4294967296) else if o.kd = 5 then leB 8 o.u.toNat else if o.kd = 6 then bl
  else if o.kd = 7 then uvar o.s.size ++ o.s.data.toList else if o.kd = 8 then risB l else if o.kd = 9 then pckB (natOf l) else uvar o.u.toNat
/-- Is it put? -/
def wOk (o : OpV) (l : List Int) : Prop := 1 ≤ o.kd ∧ o.kd ≤ 10 ∧ (o.kd = 8 → anyNeg l = false ∧ rises l) ∧ (o.kd = 9 → okPck l)
/-- An Op of the arguments: what it holds lies below B0. -/
structure OpRd (w : World) (B0 : Nat) (o : OpV) (bl : List UInt8) (l : List Int) : Prop where
  n : -9223372036854775808 ≤ o.n ∧ o.n ≤ 9223372036854775807
  u : 0 ≤ o.u ∧ o.u ≤ 18446744073709551615
  i : -9223372036854775808 ≤ o.i ∧ o.i ≤ 9223372036854775807
  rb : Rd w (.slice o.ba o.bn o.bc) (bytesV bl)
  rl : Rd w (.slice o.la o.ln o.lc) (intL l)
  fit : FitL l
  sb : bl.length ≤ 1048576
  sl : l.length ≤ 1048576
  ss : o.s.size ≤ 1048576
  lb : 0 < bl.length → ∀ b f, o.ba = some ⟨b, f, none⟩ → b < B0
  ll : 0 < l.length → ∀ b f, o.la = some ⟨b, f, none⟩ → b < B0
theorem OpRd.below {w w' : World} {B0 : Nat} {o : OpV} {bl : List UInt8} {l : List Int} (h : OpRd w B0 o bl l) (hb : Below B0 w w') : OpRd w' B0 o bl l :=
  ⟨h.n, h.u, h.i, h.rb.eff0 (F := fun k => B0 ≤ k) ⟨hb.os, hb.tape, hb.output, hb.size, fun k _ hk => hb.block k (by omega)⟩ (fun z b f _ _ e => by rw [bytesV_length] at z; injection e with e _ _; have := h.lb z b f e; omega),
    h.rl.eff0 (F := fun k => B0 ≤ k) ⟨hb.os, hb.tape, hb.output, hb.size, fun k _ hk => hb.block k (by omega)⟩ (fun z b f _ _ e => by rw [intL_length] at z; injection e with e _ _; have := h.ll z b f e; omega), h.fit, h.sb, h.sl, h.ss, h.lb, h.ll⟩
theorem PutPost.w {w w' : World} {base p : Nat} {v : Value} {bs nb : List UInt8} {e : Ending} (h : PutPost w base p v (bs ++ nb) e w') {ok : Prop} (hok : ok) : WOut w base p v bs ok nb e w' :=
  ⟨fun _ => h, fun hn => absurd hok hn⟩
set_option maxRecDepth 100000 in
theorem put_else (w : World) (base p : Nat) (v : Value) (bs : List UInt8) (h : Wr w base p v bs) (sec b s l : Value) (kd n u i : Int) (hk : kd < 1 ∨ 10 < kd) (ok : Prop) (hok : ¬ ok) (nb : List UInt8) :
    Calls Tryd.prog 44 #[.pointer (some ⟨p, 0, none⟩), .agg #[.int .i64 kd, sec, .int .i64 n, .int .u64 u, .int .i64 i, b, s, l]] w (WOut w base p v bs ok nb) := by
  have t1 : (kd == 1) = false := by simp; omega
  have t2 : (kd == 2) = false := by simp; omega
  have t3 : (kd == 3) = false := by simp; omega
  have t4 : (kd == 4) = false := by simp; omega
  have t5 : (kd == 5) = false := by simp; omega
  have t6 : (kd == 6) = false := by simp; omega
  have t7 : (kd == 7) = false := by simp; omega
  have t8 : (kd == 8) = false := by simp; omega
  have t9 : (kd == 9) = false := by simp; omega
  have t10 : (kd == 10) = false := by simp; omega
  have H0 := Lib.hid (fun o => h.box o)
  clear h hk
  go_enter Tryd.func44, Tryd.ntmps44
  go_wp2
  go_ret2
  exact WOut.no hok rfl (H0.out _).1 (H0.out _).2
theorem write_any (w : World) (base p : Nat) (v : Value) (bs : List UInt8) (h : Wr w base p v bs) (hb : base ≤ w.heap.size) (hl : bs.length ≤ 1000000000) (B0 : Nat) (hB : B0 ≤ base) (o : OpV) (bl : List UInt8) (l : List Int) (ho : OpRd w B0 o bl l) (EA : Nat → Addr) (hE : RErr w EA) (hG : GLow B0) :
    Calls Tryd.prog 44 #[.pointer (some ⟨p, 0, none⟩), .agg o.cells.toArray] w (WOut w base p v bs (wOk o l) (wire o bl l)) := by
  obtain ⟨kd, sec, n, u, i, ba, bn, bc, s, la, ln, lc⟩ := o
  have hG' : GLow base := ⟨Nat.lt_of_lt_of_le hG.1 hB, Nat.lt_of_lt_of_le hG.2.1 hB, Nat.lt_of_lt_of_le hG.2.2.1 hB, Nat.lt_of_lt_of_le hG.2.2.2.1 hB, Nat.lt_of_lt_of_le hG.2.2.2.2 hB⟩
  have hlow : 0 < l.length → ∀ b f, la = some ⟨b, f, none⟩ → b < base := fun z b f e => Nat.lt_of_lt_of_le (ho.ll z b f e) hB
  by_cases hk : kd < 1 ∨ 10 < kd
  · exact put_else w base p v bs h (.bool sec) _ (.string s) _ kd n u i hk _ (fun hw => by have h1 : 1 ≤ kd := hw.1; have h2 : kd ≤ 10 := hw.2.1; omega) _
  · obtain ⟨m, rfl⟩ : ∃ m : Nat, u = m := ⟨u.toNat, by have : 0 ≤ u := ho.u.1; omega⟩
    have hm : (m : Int) ≤ 18446744073709551615 := ho.u.2
    have hc : kd = 1 ∨ kd = 2 ∨ kd = 3 ∨ kd = 4 ∨ kd = 5 ∨ kd = 6 ∨ kd = 7 ∨ kd = 8 ∨ kd = 9 ∨ kd = 10 := by omega
    have hsl := ho.sl
    have hsb := ho.sb
    have hss : s.size ≤ 1048576 := ho.ss
    have aok : ∀ kd, 1 ≤ kd → kd ≤ 10 → kd ≠ 8 → kd ≠ 9 → wOk ⟨kd, sec, n, (m : Int), i, ba, bn, bc, s, la, ln, lc⟩ l := fun kd h1 h2 h3 h4 => ⟨h1, h2, fun e => absurd e h3, fun e => absurd e h4⟩
    rcases hc with rfl | rfl | rfl | rfl | rfl | rfl | rfl | rfl | rfl | rfl
    · exact (put_byte w base p v bs h hb hl (.bool sec) _ (.string s) _ n m i).mono fun e w' h => PutPost.w h (aok 1 (by omega) (by omega) (by omega) (by omega))
    · exact (put_uv w base p v bs h hb hl (.bool sec) _ (.string s) _ n m i m hm).mono fun e w' h => PutPost.w h (aok 2 (by omega) (by omega) (by omega) (by omega))
    · exact (put_var w base p v bs h hb hl (.bool sec) _ (.string s) _ n m i ho.i.1 ho.i.2).mono fun e w' h => PutPost.w h (aok 3 (by omega) (by omega) (by omega) (by omega))
    · exact (put_w32 w base p v bs h hb hl (.bool sec) _ (.string s) _ n m i m hm).mono fun e w' h => PutPost.w h (aok 4 (by omega) (by omega) (by omega) (by omega))
    · exact (put_w64 w base p v bs h hb hl (.bool sec) _ (.string s) _ n m i m hm).mono fun e w' h => PutPost.w h (aok 5 (by omega) (by omega) (by omega) (by omega))
    · exact (put_raw w base p v bs h hb hl (.bool sec) (.string s) (.string s) (.slice la ln lc) n m i ba bn bc bl ho.rb (by omega)).mono fun e w' h => PutPost.w h (aok 6 (by omega) (by omega) (by omega) (by omega))
    · exact (put_text w base p v bs h hb hl (.bool sec) _ (.string s) _ n m i s (by omega)).mono fun e w' h => PutPost.w h (aok 7 (by omega) (by omega) (by omega) (by omega))
    · exact (put_ris w base p v bs h hb hl (.bool sec) _ (.string s) n m i la ln lc l ho.rl (by omega) ho.fit hlow EA hE hG').mono fun e w' h => ⟨fun hw => h.1 (hw.2.2.1 rfl), fun hw => h.2 fun h2 => hw ⟨by show (1 : Int) ≤ 8; omega, by show (8 : Int) ≤ 10; omega, fun _ => h2, fun e => absurd e (by show ¬ (8 : Int) = 9; decide)⟩⟩
    · exact (put_pck w base p v bs h hb hl (.bool sec) _ (.string s) n m i la ln lc l ho.rl (by omega) ho.fit hlow EA hE hG').mono fun e w' h => ⟨fun hw => h.1 (hw.2.2.2 rfl), fun hw => h.2 fun h2 => hw ⟨by show (1 : Int) ≤ 9; omega, by show (9 : Int) ≤ 10; omega, fun e => absurd e (by show ¬ (9 : Int) = 8; decide), fun _ => h2⟩⟩
    · exact (put_upto w base p v bs h hb hl (.bool sec) _ (.string s) _ n m i m hm).mono fun e w' h => PutPost.w h (aok 10 (by omega) (by omega) (by omega) (by omega))
theorem back_any (w : World) (B0 p : Nat) (v : Value) (bs : List UInt8) (k : Nat) (h : Rdr w B0 p v bs k) (hB : B0 ≤ w.heap.size) (o : OpV) (bl : List UInt8) (l : List Int) (ho : OpRd w B0 o bl l) (hok : wOk o l) (EA : Nat → Addr) (hE : RErr w EA) (hG : GLow B0) (t : List UInt8) (ht : bs.drop k = wire o bl l ++ t) :
    Calls Tryd.prog 46 #[.pointer (some ⟨p, 0, none⟩), .agg o.cells.toArray] w (BackOut w B0 p v bs k (wire o bl l)) := by
  obtain ⟨kd, sec, n, u, i, ba, bn, bc, s, la, ln, lc⟩ := o
  have hlow := ho.ll
  obtain ⟨m, rfl⟩ : ∃ m : Nat, u = m := ⟨u.toNat, by have : 0 ≤ u := ho.u.1; omega⟩
  have hm : (m : Int) ≤ 18446744073709551615 := ho.u.2
  have h1 : 1 ≤ kd := hok.1
  have h2 : kd ≤ 10 := hok.2.1
  have hc : kd = 1 ∨ kd = 2 ∨ kd = 3 ∨ kd = 4 ∨ kd = 5 ∨ kd = 6 ∨ kd = 7 ∨ kd = 8 ∨ kd = 9 ∨ kd = 10 := by omega
  have hsl := ho.sl
  have hsb := ho.sb
  have hss : s.size ≤ 1048576 := ho.ss
  rcases hc with rfl | rfl | rfl | rfl | rfl | rfl | rfl | rfl | rfl | rfl
  · exact back_byte w B0 p v bs k h hB EA hE hG (.bool sec) _ (.string s) _ n m i ho.n.1 ho.n.2 t ht
  · exact back_uv w B0 p v bs k h hB EA hE hG (.bool sec) _ (.string s) _ n m i m hm t ht
  · exact back_var w B0 p v bs k h hB EA hE hG (.bool sec) _ (.string s) _ n m i ho.i.1 ho.i.2 t ht
  · exact back_w32 w B0 p v bs k h hB EA hE hG (.bool sec) _ (.string s) _ n m i m hm t ht
  · exact back_w64 w B0 p v bs k h hB EA hE hG (.bool sec) _ (.string s) _ n m i m hm t ht
  · exact back_raw w B0 p v bs k h hB EA hE hG (.bool sec) (.string s) _ (.slice la ln lc) n m i ba bn bc bl ho.rb (by omega) ho.lb t ht
  · exact back_text w B0 p v bs k h hB EA hE hG (.bool sec) _ (.string s) _ n m i s (by omega) t ht
  · exact back_ris w B0 p v bs k h hB EA hE hG (.bool sec) _ (.string s) (.string s) n m i la ln lc l ho.rl (by omega) ho.fit (hok.2.2.1 rfl) hlow t ht
  · exact back_pck w B0 p v bs k h hB EA hE hG (.bool sec) _ (.string s) (.string s) n m i la ln lc l ho.rl (by omega) ho.fit (hok.2.2.2 rfl) hlow t ht
  · by_cases hbig : (m : Int) ≤ 9223372036854775807
    · exact back_upto w B0 p v bs k h hB EA hE hG (.bool sec) _ (.string s) _ n m i m hbig t ht
    · exact back_big w B0 p v bs k h hB EA hE hG (.bool sec) _ (.string s) _ n i m hm (by omega) t ht
theorem short_any (w : World) (B0 p : Nat) (v : Value) (bs : List UInt8) (h : Rdr w B0 p v bs 0) (hB : B0 ≤ w.heap.size) (o : OpV) (bl : List UInt8) (l : List Int) (ho : OpRd w B0 o bl l) (hok : wOk o l) (EA : Nat → Addr) (hE : RErr w EA) (hG : GLow B0) (j : Nat) (hk : j < (wire o bl l).length) (ht : bs = (wire o bl l).take j) :
    Calls Tryd.prog 47 #[.pointer (some ⟨p, 0, none⟩), .agg o.cells.toArray] w (ShortOut w p) := by
  obtain ⟨kd, sec, n, u, i, ba, bn, bc, s, la, ln, lc⟩ := o
  have hlow := ho.ll
  obtain ⟨m, rfl⟩ : ∃ m : Nat, u = m := ⟨u.toNat, by have : 0 ≤ u := ho.u.1; omega⟩
  have hm : (m : Int) ≤ 18446744073709551615 := ho.u.2
  have h1 : 1 ≤ kd := hok.1
  have h2 : kd ≤ 10 := hok.2.1
  have hc : kd = 1 ∨ kd = 2 ∨ kd = 3 ∨ kd = 4 ∨ kd = 5 ∨ kd = 6 ∨ kd = 7 ∨ kd = 8 ∨ kd = 9 ∨ kd = 10 := by omega
  have hsl := ho.sl
  have hsb := ho.sb
  have hss : s.size ≤ 1048576 := ho.ss
  rcases hc with rfl | rfl | rfl | rfl | rfl | rfl | rfl | rfl | rfl | rfl
  · exact short_byte w B0 p v bs h hB EA hE hG (.bool sec) _ (.string s) _ n m i ho.n.1 ho.n.2 j hk ht
  · exact short_uv w B0 p v bs h hB EA hE hG (.bool sec) _ (.string s) _ n m i m hm j hk ht
  · exact short_var w B0 p v bs h hB EA hE hG (.bool sec) _ (.string s) _ n m i ho.i.1 ho.i.2 j hk ht
  · exact short_w32 w B0 p v bs h hB EA hE hG (.bool sec) _ (.string s) _ n m i m hm j hk ht
  · exact short_w64 w B0 p v bs h hB EA hE hG (.bool sec) _ (.string s) _ n m i m hm j hk ht
  · exact short_raw w B0 p v bs h hB EA hE hG (.bool sec) (.string s) _ (.slice la ln lc) n m i ba bn bc bl ho.rb (by omega) ho.lb j hk ht
  · exact short_text w B0 p v bs h hB EA hE hG (.bool sec) _ (.string s) _ n m i s (by omega) j hk ht
  · exact short_ris w B0 p v bs h hB EA hE hG (.bool sec) _ (.string s) (.string s) n m i la ln lc l ho.rl (by omega) ho.fit (hok.2.2.1 rfl) hlow j hk ht
  · exact short_pck w B0 p v bs h hB EA hE hG (.bool sec) _ (.string s) (.string s) n m i la ln lc l ho.rl (by omega) ho.fit (hok.2.2.2 rfl) hlow j hk ht
  · exact short_upto w B0 p v bs h hB EA hE hG (.bool sec) _ (.string s) _ n m i m hm j hk ht
end Go.Proofs.YtmmflhippbegaaaDoor
