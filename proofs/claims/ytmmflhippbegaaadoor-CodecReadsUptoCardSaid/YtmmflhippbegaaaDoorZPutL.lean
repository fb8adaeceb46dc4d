/- write: the arms of lists; write of any value. -/
import Derived.Test.YtmmflhippbegaaaDoorZPut
import Derived.Test.YtmmflhippbegaaaDoorZMayPut
import Derived.Test.YtmmflhippbegaaaDoorZPacked
import Derived.Test.YtmmflhippbegaaaDoorZRAll
import Derived.Test.YtmmflhippbegaaaDoorZOpV
namespace Go.Proofs.YtmmflhippbegaaaDoor
set_option linter.unusedVariables false
open Go.ChangeShapes Go.WideShapes Go.ChangeAt Go.RowKit

theorem Rd.eff0 {F : Nat → Prop} {w w' : World} {v : Value} {xs : List Value} (h : Rd w v xs) (hb : Eff F w w') (hF : 0 < xs.length → ∀ b o l c, v = .slice (some ⟨b, o, none⟩) l c → ¬ F b) : Rd w' v xs := by
  rcases Nat.eq_zero_or_pos xs.length with h0 | h0
  · obtain ⟨A, c, hv, hc, _⟩ := h
    exact ⟨A, c, hv, hc, fun h => absurd h (by omega)⟩
  · exact h.eff hb (hF h0)
/-- What a call of write answers and leaves. -/
def WOut (w : World) (base p : Nat) (v : Value) (bs : List UInt8) (ok : Prop) (nb : List UInt8) (e : Ending) (w' : World) : Prop :=
  (ok → e = .returned (.tuple #[.bool true, .bool true]) ∧ ∃ v', Wr w' base p v' (bs ++ nb) ∧ Wrote w w' p v v') ∧
  (¬ ok → e = .returned (.tuple #[.bool false, .bool true]) ∧ Wr w' base p v bs ∧ Wrote w w' p v v)
theorem WOut.no {w w' : World} {base p : Nat} {v : Value} {bs nb : List UInt8} {ok : Prop} {e : Ending} (hok : ¬ ok) (he : e = .returned (.tuple #[.bool false, .bool true])) (h1 : Wr w' base p v bs) (h2 : Wrote w w' p v v) : WOut w base p v bs ok nb e w' :=
  ⟨fun h => absurd h hok, fun _ => ⟨he, h1, h2⟩⟩
theorem WOut.yes {w w' : World} {base p : Nat} {v v' : Value} {bs nb : List UInt8} {ok : Prop} {e : Ending} (hok : ok) (he : e = .returned (.tuple #[.bool true, .bool true])) (h1 : Wr w' base p v' (bs ++ nb)) (h2 : Wrote w w' p v v') : WOut w base p v bs ok nb e w' :=
  ⟨fun _ => ⟨he, v', h1, h2⟩, fun h => absurd hok h⟩
theorem Wr.of_below {w w' : World} {base p : Nat} {v : Value} {bs : List UInt8} (h : Wr w base p v bs) (hb : Below w.heap.size w w') : Wr w' base p v bs :=
  h.eff (F := fun _ => False) (Eff.of_below hb _) (fun _ _ f => f)
theorem Wrote.tail {a b c : World} {p : Nat} {v v' : Value} (h : Wrote a b p v v') (hb : Below b.heap.size b c) : Wrote a c p v v' :=
  ⟨h.eff.trans (Eff.of_below hb (fun _ => False)) (fun _ f _ => f.elim), h.fresh⟩

theorem undrew {B : Nat} {w w' : World} (h : Below B w.drew w') : Below B w w' := ⟨h.os, h.tape, h.output, h.size, h.block⟩
structure Cells8 (w : World) (B : Nat) (c0 c1 c2 c3 c4 c5 c6 c7 : Value) : Prop where
  c0 : w.cell? ⟨B, 0, none⟩ = some c0
  c1 : w.cell? ⟨B, 1, none⟩ = some c1
  c2 : w.cell? ⟨B, 2, none⟩ = some c2
  c3 : w.cell? ⟨B, 3, none⟩ = some c3
  c4 : w.cell? ⟨B, 4, none⟩ = some c4
  c5 : w.cell? ⟨B, 5, none⟩ = some c5
  c6 : w.cell? ⟨B, 6, none⟩ = some c6
  c7 : w.cell? ⟨B, 7, none⟩ = some c7
theorem Cells8.of {w : World} {B : Nat} {c0 c1 c2 c3 c4 c5 c6 c7 : Value} {t : TypeId} {fr : Nat × Nat} (h : w.heap[B]? = some (.cells #[c0, c1, c2, c3, c4, c5, c6, c7] t fr)) : Cells8 w B c0 c1 c2 c3 c4 c5 c6 c7 :=
  ⟨blk_cell h 0, blk_cell h 1, blk_cell h 2, blk_cell h 3, blk_cell h 4, blk_cell h 5, blk_cell h 6, blk_cell h 7⟩
set_option maxRecDepth 100000 in
set_option maxHeartbeats 1000000 in
theorem put_ris (w : World) (base p : Nat) (v : Value) (bs : List UInt8) (h : Wr w base p v bs) (hb : base ≤ w.heap.size) (hl : bs.length ≤ 1000000000) (sec b s : Value) (n u i : Int) (la : Option Addr) (ln lc : Nat) (l : List Int) (hrd : Rd w (.slice la ln lc) (intL l)) (hll : l.length ≤ 1000000000) (hf : FitL l)
    (hlow : 0 < l.length → ∀ b o, la = some ⟨b, o, none⟩ → b < base) (EA : Nat → Addr) (hE : RErr w EA) (hG : GLow base) :
    Calls Tryd.prog 44 #[.pointer (some ⟨p, 0, none⟩), .agg #[.int .i64 8, sec, .int .i64 n, .int .u64 u, .int .i64 i, b, s, .slice la ln lc]] w (WOut w base p v bs (anyNeg l = false ∧ rises l) (risB l)) := by
  obtain ⟨o, ho⟩ : ∃ o, o = Obj.cells #[.int .i64 8, sec, .int .i64 n, .int .u64 u, .int .i64 i, b, s, .slice la ln lc] 46 := ⟨_, rfl⟩
  obtain ⟨h0, hw0⟩ := h.box o
  have hb0 : base ≤ (w.alloc o).heap.size := by simp; omega
  have hrd0 := hrd.below ((Below.refl w.heap.size w).alloc (Nat.le_refl _) o) (Nat.le_refl _)
  have hE0 : RErr (w.alloc o) EA := hE.eff ((Eff.refl (fun _ => False) _).alloc _) hG (fun _ f => f.elim)
  have hoff : 0 < l.length → ∀ b o, la = some ⟨b, o, none⟩ → ¬ WrB p v b := fun z0 b o e hw => by have := hlow z0 b o e; have := (h.ge b hw).1; omega
  have hnb : ¬ WrB p v w.heap.size := fun hw => by have := (h.ge _ hw).2; omega
  have hbx : (w.alloc o).heap[w.heap.size]? = some o := heap_alloc_new w _
  have C1 := wris_any _ base p v bs h0 hb0 (by omega) la ln lc l hrd0 hll hf _ _ hE0.r hE0.o hoff
  have C2 : ∀ w1, Eff (WrB p v) (w.alloc o) w1 → Calls Tryd.prog 84 #[.agg #[.int .i64 8, sec, .int .i64 n, .int .u64 u, .int .i64 i, b, s, .slice la ln lc]] w1 (MayOut w1 8 l) :=
    fun w1 he => mayPut_any w1 8 n u i sec s b la ln lc l (hrd0.eff0 he (fun z0 b o l c e => by rw [intL_length] at z0; injection e with e _ _; exact hoff z0 b o e)) hll
  have BX : ∀ w1, Eff (WrB p v) (w.alloc o) w1 → Cells8 w1 w.heap.size (.int .i64 8) sec (.int .i64 n) (.int .u64 u) (.int .i64 i) b s (.slice la ln lc) := fun w1 he => by
    have h1 := he.block w.heap.size (by simp) hnb
    rw [hbx, ho] at h1
    exact Cells8.of h1
  have HC2 := Lib.hid C2
  have HBX := Lib.hid BX
  have H0 := Lib.hid h0
  have HW0 := Lib.hid hw0
  rw [ho] at C1
  have HO := Lib.hid ho
  clear C2 BX hbx hnb hoff hE0 hrd0 hb0 hw0 h0 ho hE hG hlow hrd h hf
  go_enter Tryd.func44, Tryd.ntmps44
  go_wp2_with fail
  refine C1.mono ?_
  rintro e w1 ⟨h1, h2, h3⟩
  rw [← HO.out] at h1 h2 h3
  clear C1
  cases hn : anyNeg l with
  | true =>
    obtain ⟨rfl, rfl⟩ := h1 hn
    have hE1 : Eff (WrB p v) (w.alloc o) (w.alloc o) := Eff.refl _ _
    have C2 := HC2.out _ (hE1.drew)
    have HN := Lib.hid hn
    have HNO := Lib.hid (show ¬ (anyNeg l = false ∧ rises l) from fun h => absurd (hn.symm.trans h.1) (by decide))
    obtain ⟨d0, d1, d2, d3, d4, d5, d6, d7⟩ := HBX.out _ hE1
    have HW := Lib.hid (hE1.drew)
    clear hE1 h1 h2 h3 hn HO HC2 HBX
    generalize w.alloc o = w1 at *
    unfold errV
    go_upto_region 20 with fail
    go_region_with (go_at_call 84; refine C2.mono ?_; rintro e w2 ⟨r, rfl, hr, hb2⟩; replace hb2 := undrew hb2; obtain rfl : r = false := hr.1 HN.out)
    go_wp2
    go_ret2
    exact WOut.no HNO.out rfl (H0.out.of_below hb2) (HW0.out.tail hb2)
  | false =>
    by_cases hri : rises l
    · obtain ⟨rfl, v1, hw1, hwr1⟩ := h3 hn hri
      have hE1 : Eff (WrB p v) (w.alloc o) w1 := hwr1.eff
      have C2 := HC2.out _ (hE1.drew)
      have HN := Lib.hid hn
      have HRI := Lib.hid hri
      have HW1 := Lib.hid hw1
      have HWR1 := Lib.hid (HW0.out.trans hwr1)
      obtain ⟨d0, d1, d2, d3, d4, d5, d6, d7⟩ := HBX.out _ hE1
      clear hE1 h1 h2 h3 hn hri hw1 hwr1 HO HC2 HBX
      go_upto_region 20 with fail
      go_region_with (go_at_call 84; refine C2.mono ?_; rintro e w2 ⟨r, rfl, hr, hb2⟩; replace hb2 := undrew hb2; obtain rfl : r = true := hr.2.2 HN.out (fun _ => HRI.out))
      go_wp2
      go_ret2
      exact WOut.yes ⟨HN.out, HRI.out⟩ rfl (HW1.out.of_below hb2) (HWR1.out.tail hb2)
    · obtain ⟨rfl, d, rfl⟩ := h2 hn hri
      have hE1 : Eff (WrB p v) (w.alloc o) ((w.alloc o).drewN d) := (Eff.refl _ _).drewN d
      have C2 := HC2.out _ (hE1.drew)
      have HN := Lib.hid hn
      have HRI := Lib.hid hri
      have HW1 := Lib.hid (H0.out.drewN d)
      have HWR1 := Lib.hid (HW0.out.drewN d)
      obtain ⟨d0, d1, d2, d3, d4, d5, d6, d7⟩ := HBX.out _ hE1
      clear hE1 h1 h2 h3 hn hri HO HC2 HBX H0 HW0
      generalize (w.alloc o).drewN d = w1 at *
      unfold errV
      go_upto_region 20 with fail
      go_region_with (go_at_call 84; refine C2.mono ?_; rintro e w2 ⟨r, rfl, hr, hb2⟩; replace hb2 := undrew hb2; obtain rfl : r = false := hr.2.1 HN.out rfl HRI.out)
      go_wp2
      go_ret2
      exact WOut.no (fun h => HRI.out h.2) rfl (HW1.out.of_below hb2) (HWR1.out.tail hb2)
/-- May it be put packed? -/
def okPck (l : List Int) : Prop := anyNeg l = false ∧ (zerosB l = true → l.length ≤ 65536)
theorem okPck_may {l : List Int} (h : okPck l) : (decide ((9 : Int) ≠ 9) || !zerosB l || decide (l.length ≤ 65536)) = true := by
  cases hz : zerosB l
  · rfl
  · simpa using h.2 hz
theorem okPck_not {l : List Int} (hn : anyNeg l = false) (h : ¬ okPck l) : (decide ((9 : Int) ≠ 9) || !zerosB l || decide (l.length ≤ 65536)) = false := by
  cases hz : zerosB l
  · exact absurd ⟨hn, fun h2 => absurd (hz.symm.trans h2) (by decide)⟩ h
  · have h3 : ¬ l.length ≤ 65536 := fun h4 => h ⟨hn, fun _ => h4⟩
    simpa using h3
def natOf (l : List Int) : List Nat := l.map Int.toNat
theorem natOf_length (l : List Int) : (natOf l).length = l.length := by simp [natOf]
theorem neg_mem {l : List Int} (h : anyNeg l = false) {z : Int} (hz : z ∈ l) : 0 ≤ z := by
  have := List.any_eq_false.1 h z hz; simpa using this
theorem natI_natOf {l : List Int} (h : anyNeg l = false) : natI (natOf l) = l := by
  unfold natI natOf
  rw [List.map_map]
  conv => rhs; rw [← List.map_id l]
  exact List.map_congr_left fun z hz => by have := neg_mem h hz; simp only [Function.comp, id]; omega
theorem natOf_fit {l : List Int} (hf : FitL l) : ∀ x ∈ natOf l, x < 2 ^ 63 := fun x hx => by
  obtain ⟨z, hz, rfl⟩ := List.mem_map.1 hx
  have := hf z hz; omega
theorem zerosB_iff {l : List Int} (hn : anyNeg l = false) (hf : FitL l) : widL (natOf l) = 0 ↔ zerosB l = true := by
  rw [widL_zero (fun x hx => Nat.lt_trans (natOf_fit hf x hx) (by decide))]
  unfold zerosB
  rw [List.all_eq_true]
  constructor
  · intro h z hz
    have := h z.toNat (List.mem_map_of_mem hz)
    have := neg_mem hn hz
    simp; omega
  · intro h x hx
    obtain ⟨z, hz, rfl⟩ := List.mem_map.1 hx
    have := h z hz
    simp at this; omega
theorem okPck_case {l : List Int} (hf : FitL l) (h : okPck l) : natOf l = [] ∨ (0 < (natOf l).length ∧ widL (natOf l) = 0 ∧ (natOf l).length ≤ 65536) ∨ (0 < (natOf l).length ∧ 0 < widL (natOf l)) := by
  rcases Nat.eq_zero_or_pos (natOf l).length with e | e
  · exact .inl (List.eq_nil_of_length_eq_zero e)
  · rcases Nat.eq_zero_or_pos (widL (natOf l)) with e2 | e2
    · exact .inr (.inl ⟨e, e2, by rw [natOf_length]; exact h.2 ((zerosB_iff h.1 hf).1 e2)⟩)
    · exact .inr (.inr ⟨e, e2⟩)
theorem wpck_any (w : World) (base p : Nat) (v : Value) (bs : List UInt8) (h : Wr w base p v bs) (hb : base ≤ w.heap.size) (hbl : bs.length ≤ 10000000000) (a : Option Addr) (n c : Nat) (l : List Int) (hr : Rd w (.slice a n c) (intL l)) (hl : l.length ≤ 1000000000) (hf : FitL l)
    (eR eL : Value) (hR : w.cell? ⟨0, 0, none⟩ = some eR) (hL : w.cell? ⟨1, 0, none⟩ = some eL) (hoff : 0 < l.length → ∀ b o, a = some ⟨b, o, none⟩ → ¬ WrB p v b) :
    Calls Tryd.prog 16 #[.pointer (some ⟨p, 0, none⟩), .slice a n c] w fun e w' =>
      (anyNeg l = true → e = .returned eR ∧ w' = w) ∧ (anyNeg l = false → ¬ okPck l → e = .returned eL ∧ w' = w) ∧
      (okPck l → e = .returned .nilIface ∧ ∃ v', Wr w' base p v' (bs ++ pckB (natOf l)) ∧ Wrote w w' p v v') := by
  cases hn : anyNeg l with
  | true =>
    exact (wpck_neg w p a n c l hr hl hn eR hR).mono fun e w' ⟨h1, h2⟩ => ⟨fun _ => ⟨h1, h2.symm⟩, fun h => (by cases h), fun h => absurd (hn.symm.trans h.1) (by decide)⟩
  | false =>
    have hr' : Rd w (.slice a n c) (intL (natI (natOf l))) := by rw [natI_natOf hn]; exact hr
    by_cases hok : okPck l
    · exact (wpck_ok w base p v bs h hb hbl a n c (natOf l) hr' (by rw [natOf_length]; exact hl) (natOf_fit hf) (okPck_case hf hok) (by rw [natOf_length]; exact hoff)).mono fun e w' h2 => ⟨fun h => (by cases h), fun _ h => absurd hok h, fun _ => h2⟩
    · have hz : zerosB l = true := by
        cases hz : zerosB l
        · exact absurd ⟨hn, fun h2 => absurd (hz.symm.trans h2) (by decide)⟩ hok
        · rfl
      have hbig : 65536 < l.length := by
        rcases Nat.lt_or_ge 65536 l.length with h5 | h5
        · exact h5
        · exact absurd ⟨hn, fun _ => h5⟩ hok
      exact (wpck_lim w p a n c (natOf l) hr' (by rw [natOf_length]; exact hl) (natOf_fit hf) ((zerosB_iff hn hf).2 hz) (by rw [natOf_length]; exact hbig) eL hL).mono fun e w' ⟨h1, h2⟩ => ⟨fun h => (by cases h), fun _ _ => ⟨h1, h2.symm⟩, fun h => absurd h hok⟩

set_option maxRecDepth 100000 in
set_option maxHeartbeats 1000000 in
theorem put_pck (w : World) (base p : Nat) (v : Value) (bs : List UInt8) (h : Wr w base p v bs) (hb : base ≤ w.heap.size) (hl : bs.length ≤ 1000000000) (sec b s : Value) (n u i : Int) (la : Option Addr) (ln lc : Nat) (l : List Int) (hrd : Rd w (.slice la ln lc) (intL l)) (hll : l.length ≤ 1000000000) (hf : FitL l)
    (hlow : 0 < l.length → ∀ b o, la = some ⟨b, o, none⟩ → b < base) (EA : Nat → Addr) (hE : RErr w EA) (hG : GLow base) :
    Calls Tryd.prog 44 #[.pointer (some ⟨p, 0, none⟩), .agg #[.int .i64 9, sec, .int .i64 n, .int .u64 u, .int .i64 i, b, s, .slice la ln lc]] w (WOut w base p v bs (okPck l) (pckB (natOf l))) := by
  obtain ⟨o, ho⟩ : ∃ o, o = Obj.cells #[.int .i64 9, sec, .int .i64 n, .int .u64 u, .int .i64 i, b, s, .slice la ln lc] 46 := ⟨_, rfl⟩
  obtain ⟨h0, hw0⟩ := h.box o
  have hb0 : base ≤ (w.alloc o).heap.size := by simp; omega
  have hrd0 := hrd.below ((Below.refl w.heap.size w).alloc (Nat.le_refl _) o) (Nat.le_refl _)
  have hE0 : RErr (w.alloc o) EA := hE.eff ((Eff.refl (fun _ => False) _).alloc _) hG (fun _ f => f.elim)
  have hoff : 0 < l.length → ∀ b o, la = some ⟨b, o, none⟩ → ¬ WrB p v b := fun z0 b o e hw => by have := hlow z0 b o e; have := (h.ge b hw).1; omega
  have hnb : ¬ WrB p v w.heap.size := fun hw => by have := (h.ge _ hw).2; omega
  have hbx : (w.alloc o).heap[w.heap.size]? = some o := heap_alloc_new w _
  have C1 := wpck_any _ base p v bs h0 hb0 (by omega) la ln lc l hrd0 hll hf _ _ hE0.r hE0.l hoff
  have C2 : ∀ w1, Eff (WrB p v) (w.alloc o) w1 → Calls Tryd.prog 84 #[.agg #[.int .i64 9, sec, .int .i64 n, .int .u64 u, .int .i64 i, b, s, .slice la ln lc]] w1 (MayOut w1 9 l) :=
    fun w1 he => mayPut_any w1 9 n u i sec s b la ln lc l (hrd0.eff0 he (fun z0 b o l c e => by rw [intL_length] at z0; injection e with e _ _; exact hoff z0 b o e)) hll
  have BX : ∀ w1, Eff (WrB p v) (w.alloc o) w1 → Cells8 w1 w.heap.size (.int .i64 9) sec (.int .i64 n) (.int .u64 u) (.int .i64 i) b s (.slice la ln lc) := fun w1 he => by
    have h1 := he.block w.heap.size (by simp) hnb
    rw [hbx, ho] at h1
    exact Cells8.of h1
  have HC2 := Lib.hid C2
  have HBX := Lib.hid BX
  have H0 := Lib.hid h0
  have HW0 := Lib.hid hw0
  rw [ho] at C1
  have HO := Lib.hid ho
  clear C2 BX hbx hnb hoff hE0 hrd0 hb0 hw0 h0 ho hE hG hlow hrd h hf
  go_enter Tryd.func44, Tryd.ntmps44
  go_wp2_with fail
  refine C1.mono ?_
  rintro e w1 ⟨h1, h2, h3⟩
  rw [← HO.out] at h1 h2 h3
  clear C1
  cases hn : anyNeg l with
  | true =>
    obtain ⟨rfl, rfl⟩ := h1 hn
    have hE1 : Eff (WrB p v) (w.alloc o) (w.alloc o) := Eff.refl _ _
    have C2 := HC2.out _ (hE1.drew)
    have HN := Lib.hid hn
    have HNO := Lib.hid (show ¬ (okPck l) from fun h => absurd (hn.symm.trans h.1) (by decide))
    obtain ⟨d0, d1, d2, d3, d4, d5, d6, d7⟩ := HBX.out _ hE1
    have HW := Lib.hid (hE1.drew)
    clear hE1 h1 h2 h3 hn HO HC2 HBX
    generalize w.alloc o = w1 at *
    unfold errV
    go_upto_region 23 with fail
    go_region_with (go_at_call 84; refine C2.mono ?_; rintro e w2 ⟨r, rfl, hr, hb2⟩; replace hb2 := undrew hb2; obtain rfl : r = false := hr.1 HN.out)
    go_wp2
    go_ret2
    exact WOut.no HNO.out rfl (H0.out.of_below hb2) (HW0.out.tail hb2)
  | false =>
    by_cases hri : okPck l
    · obtain ⟨rfl, v1, hw1, hwr1⟩ := h3 hri
      have hE1 : Eff (WrB p v) (w.alloc o) w1 := hwr1.eff
      have C2 := HC2.out _ (hE1.drew)
      have HN := Lib.hid hn
      have HRI := Lib.hid hri
      have HW1 := Lib.hid hw1
      have HWR1 := Lib.hid (HW0.out.trans hwr1)
      obtain ⟨d0, d1, d2, d3, d4, d5, d6, d7⟩ := HBX.out _ hE1
      clear hE1 h1 h2 h3 hri hw1 hwr1 HO HC2 HBX
      go_upto_region 23 with fail
      go_region_with (go_at_call 84; refine C2.mono ?_; rintro e w2 ⟨r, rfl, hr, hb2⟩; replace hb2 := undrew hb2; obtain rfl : r = true := (hr.2.2 HN.out (fun h => by omega)).trans (okPck_may HRI.out))
      go_wp2
      go_ret2
      exact WOut.yes HRI.out rfl (HW1.out.of_below hb2) (HWR1.out.tail hb2)
    · obtain ⟨rfl, rfl⟩ := h2 hn hri
      have hE1 : Eff (WrB p v) (w.alloc o) (w.alloc o) := Eff.refl _ _
      have C2 := HC2.out _ (hE1.drew)
      have HN := Lib.hid hn
      have HRI := Lib.hid hri
      have HW1 := Lib.hid H0.out
      have HWR1 := Lib.hid HW0.out
      obtain ⟨d0, d1, d2, d3, d4, d5, d6, d7⟩ := HBX.out _ hE1
      clear hE1 h1 h2 h3 hri HO HC2 HBX H0 HW0
      generalize w.alloc o = w1 at *
      unfold errV
      go_upto_region 23 with fail
      go_region_with (go_at_call 84; refine C2.mono ?_; rintro e w2 ⟨r, rfl, hr, hb2⟩; replace hb2 := undrew hb2; obtain rfl : r = false := (hr.2.2 HN.out (fun h => by omega)).trans (okPck_not HN.out HRI.out))
      go_wp2
      go_ret2
      exact WOut.no HRI.out rfl (HW1.out.of_below hb2) (HWR1.out.tail hb2)
end Go.Proofs.YtmmflhippbegaaaDoor
