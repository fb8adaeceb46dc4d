/- putList: a list put by a Writer and by the document (printed by wip/gen_puti.py). -/
import Derived.Test.YtmmflhippbegaaaDoorZPutN
import Derived.Test.YtmmflhippbegaaaDoorZHandI
namespace Go.Proofs.YtmmflhippbegaaaDoor
set_option linter.unusedVariables false
open Go.ChangeShapes Go.WideShapes Go.ChangeAt Go.RowKit

theorem HandI.over {F : Nat → Prop} {w w' : World} {lo p : Nat} {vf vw : Value} {full want : List Int} {n : Nat} (h : HandI w lo p vf vw full want n) (e : Eff F w w') (hF : ∀ k, F k → k < lo) : HandI w' lo p vf vw full want n :=
  ⟨(e.block p (lt_of_heap h.blk) (fun hk => by have := hF p hk; have := h.hp; omega)).trans h.blk, h.hp,
    h.f.eff e (fun k hk hq => by have := hF k hq; have := (h.f.lt k hk).1; omega), h.g.eff e (fun k hk hq => by have := hF k hq; have := (h.g.lt k hk).1; omega), h.ne⟩
theorem HandI.drewN {w : World} {lo p : Nat} {vf vw : Value} {full want : List Int} {n : Nat} (h : HandI w lo p vf vw full want n) (d : Nat) : HandI (w.drewN d) lo p vf vw full want n := ⟨h.blk, h.hp, h.f.drewN d, h.g.drewN d, h.ne⟩
/-- From w0 to w only what is new turned: what is known of w0 holds in w. -/
theorem Sent.at {w0 w : World} {EA : Nat → Addr} (h : Sent w0 EA) (hb : Below w0.heap.size w0 w) : Sent w EA := h.below hb

set_option maxRecDepth 100000 in
set_option maxHeartbeats 2000000 in
theorem pl_ris (w0 w : World) (base p : Nat) (v : Value) (bs : List UInt8) (h : Wr w base p v bs) (h0 : w0.heap.size ≤ base) (hb : base ≤ w.heap.size) (hbel : Below w0.heap.size w0 w) (hl : bs.length ≤ 1000000000) (sec b s : Value) (n u i : Int) (a : Option Addr) (k c : Nat) (l : List Int)
    (hrd : Rd w0 (.slice a k c) (intL l)) (hll : l.length ≤ 100000000) (hf : FitL l) (EA : Nat → Addr) (hE : Sent w0 EA) :
    Calls Tryd.prog 62 #[.pointer (some ⟨p, 0, none⟩), .agg #[.int .i64 8, sec, .int .i64 n, .int .u64 u, .int .i64 i, b, s, .slice a k c]] w fun e w' => ∃ nb, nb.length ≤ 20 + 10 * l.length ∧ PutW w base p v bs nb e w' := by
  have hx0 := cells8_new w (.int .i64 8) sec (.int .i64 n) (.int .u64 u) (.int .i64 i) b s (.slice a k c)
  obtain ⟨o, ho⟩ : ∃ o, o = Obj.cells #[.int .i64 8, sec, .int .i64 n, .int .u64 u, .int .i64 i, b, s, .slice a k c] 46 := ⟨_, rfl⟩
  obtain ⟨hw0, hr0⟩ := h.box o
  have hz0 : (w.alloc o).heap.size = w.heap.size + 1 := by simp
  have hB0 : Below w0.heap.size w0 (w.alloc o) := hbel.alloc hbel.size o
  have C1 := handI_any (w.alloc o) a k c l (hrd.below hB0 (Nat.le_refl _)) (by omega)
  have HRD := Lib.hid hrd
  have HE := Lib.hid hE
  have HF := Lib.hid hf
  have HZ0 := Lib.hid hz0
  have HZB := Lib.hid hbel.size
  have HWR := Lib.hid h
  have HBEL := Lib.hid hbel
  have HW0 := Lib.hid hw0
  have HR0 := Lib.hid hr0
  have HB0 := Lib.hid hB0
  have HLT := Lib.hid (fun k (hk : WrB p v k) => (h.ge k hk).2)
  have HGE := Lib.hid (fun k (hk : WrB p v k) => (h.ge k hk).1)
  rw [ho] at C1
  have HO := Lib.hid ho
  rw [← ho] at hx0
  have HX := Lib.hid hx0
  clear hw0 hr0 ho h hx0 hrd hE hf hz0 hB0 hbel
  go_enter Tryd.func62, Tryd.ntmps62
  go_wp2_with fail
  refine C1.mono ?_
  rintro e w1 ⟨p1, vf, vw, rfl, hh, hb1⟩
  clear C1
  rw [← HO.out] at hh hb1
  -- the buffer of what is added
  have hb2 : Below (w.alloc o).heap.size (w.alloc o) (w1.alloc (.cells #[] 5)) := hb1.alloc hb1.size _
  have hz1 := hb1.size
  have hw2 := HW0.out.of_below hb2
  have hr2 := HR0.out.tail hb2
  have hx2 := HX.out.effw (Eff.of_below hb2 (fun _ => False)) (fun f => f)
  have hB2 := HB0.out.trans (hb2.mono (by have := HZ0.out; have := HZB.out; omega))
  have hh2 : HandI (w1.alloc (.cells #[] 5)) (w.alloc o).heap.size p1 vf vw _ _ _ := hh.over (F := fun _ => False) ((Eff.refl _ _).alloc _) (fun _ f => f.elim)
  have hown2 := own_empty w1 w.heap.size 5 (by have := HZ0.out; omega)
  have hz2 : (w1.alloc (.cells #[] 5)).heap.size = w1.heap.size + 1 := by simp
  obtain ⟨d0, d1, d2, d3, d4, d5, d6, d7⟩ := hx2
  have C2 := rris_any (w1.alloc (.cells #[] 5)) a k c l (HRD.out.below hB2 (Nat.le_refl _)) (by omega) HF.out
  have HW2 := Lib.hid hw2
  have HR2 := Lib.hid hr2
  have HB2 := Lib.hid hB2
  have HH2 := Lib.hid hh2
  have HZ2 := Lib.hid (show w.heap.size ≤ (w1.alloc (.cells #[] 5)).heap.size ∧ (w.alloc o).heap.size ≤ (w1.alloc (.cells #[] 5)).heap.size from ⟨by have := HZ0.out; omega, by omega⟩)
  clear hb1 hb2 hz1 hw2 hr2 hB2 hh2 hown2 hh hz2
  go_wp2_with (fail)
  refine C2.mono ?_
  rintro e w3 ⟨va, nb, kk, rfl, hO, ho3, hb3⟩
  clear C2
  have hw3 := HW2.out.of_below hb3
  have hr3 := HR2.out.tail hb3
  have hB3 := HB2.out.trans (hb3.mono (by have := HZ2.out; have := HZ0.out; have := HZB.out; omega))
  have hh3 := HH2.out.over (Eff.of_below hb3 (fun _ => False)) (fun _ f => f.elim)
  have ho3' := own_base ho3 HZ2.out.1
  have hz3 := hb3.size
  obtain ⟨av, nv, cv, rfl⟩ := own_sl hh3.f
  obtain rfl : nv = (l ++ ims 80).length := by have := hh3.f.len; rwa [intL_length] at this
  obtain ⟨g, rfl⟩ := hh3.f.someAt (by rw [List.length_append, ims_length]; omega)
  have hgl := hh3.f.lt g rfl
  have C3 := giveI_any w3 _ p1 g cv vw _ _ l.length hh3 (by simp)
  have hrd3 := (own_to (own_take hh3.f (n := l.length) (by rw [intL_length]; simp)) (show _ = intL l by rw [intL_append, List.take_left' (intL_length l)])).rd
  have HW3 := Lib.hid hw3
  have HR3 := Lib.hid hr3
  have HB3 := Lib.hid hB3
  have HH3 := Lib.hid hh3
  have HO3 := Lib.hid ho3'
  have HRD3 := Lib.hid hrd3
  have HG := Lib.hid hgl
  have HZ3 := Lib.hid hz3
  clear hw3 hr3 hB3 hh3 ho3' ho3 hb3 hrd3 hgl hz3 d0 d1 d2 d3 d4 d5 d6 d7
  go_wp2_with fail
  refine C3.mono ?_
  rintro e w4 ⟨d, rfl, hq⟩
  clear C3
  have hw4 : Wr w4 base p v bs := by rw [hq]; exact HW3.out.drewN d
  have hr4 : Wrote w w4 p v v := by rw [hq]; exact HR3.out.drewN d
  have hB4 : Below w0.heap.size w0 w4 := by rw [hq]; exact below_drewN HB3.out d
  have hh4 := HH3.out.drewN d
  have ho4 := HO3.out.drewN d
  have hrd4 : Rd w4 (.slice (some ⟨g, 0, none⟩) l.length cv) (intL l) := by rw [hq]; exact HRD3.out
  have hz4 : w4.heap.size = w3.heap.size := by rw [hq]; rfl
  rw [← hq] at hh4 ho4
  have hoff : 0 < l.length → ∀ b o, some (⟨g, 0, none⟩ : Addr) = some ⟨b, o, none⟩ → ¬ WrB p v b := fun _ b o e hk => by
    injection e with e; injection e with e _ _; subst e
    have := HLT.out _ hk; have := HG.out.1; have := HZ0.out; omega
  have hbz : base ≤ w4.heap.size := by have := HZ3.out; have := HZ2.out.1; omega
  have C4 := wris_out w4 base p v bs hw4 hbz (by omega) _ l.length cv l hrd4 (by omega) HF.out EA (HE.out.at hB4) hoff nb kk hO
  have HR4 := Lib.hid hr4
  have HH4 := Lib.hid hh4
  have HO4 := Lib.hid ho4
  have HG4 := Lib.hid (show g < w4.heap.size ∧ w.heap.size ≤ w4.heap.size by have := HG.out; have := HZ3.out; have := HZ2.out; omega)
  clear hq hw4 hr4 hB4 hh4 ho4 hrd4 hz4 hoff hbz HW3 HR3 HB3 HH3 HO3 HRD3
  go_wp2_with fail
  refine C4.mono ?_
  rintro e w5 ⟨er, v5, rfl, hnum, hw5, hr5⟩
  clear C4
  have hall5 := HR4.out.trans hr5
  have hbel5 := HBEL.out.trans ((hall5.below HWR.out hb).mono h0)
  have C5 := hnum w5 (HE.out.at hbel5)
  have hlo : ∀ k, WrB p v k → k < (w.alloc o).heap.size := fun k hk => by have := HLT.out k hk; have := HZ0.out; omega
  have hh5 := HH4.out.over hr5.eff hlo
  have hnz : ∀ k, WrB p v5 k → ¬ ((Value.slice (some ⟨g, 0, none⟩) (l ++ ims 80).length cv).ownBlock = some k ∨ vw.ownBlock = some k) := fun k hk hf => by
    have h1 : (w.alloc o).heap.size ≤ k ∧ k < w4.heap.size := hf.elim (fun h => HH4.out.f.lt k h) (fun h => HH4.out.g.lt k h)
    rcases hk with hk | hk
    · have := HLT.out k (.inl hk); have := HZ0.out; omega
    · rcases hr5.fresh k hk with h2 | h2
      · have := HLT.out k (.inr h2); have := HZ0.out; omega
      · omega
  have ho5 := HO4.out.eff hr5.eff (fun k hk hf => by have := HLT.out k hf; have := (HO4.out.lt k hk).1; omega)
  have C6 := isame_any w5 _ p1 _ _ _ _ _ hh5 (by rw [List.length_append, ims_length]; omega) (by rw [List.length_append, ims_length]; omega)
  rw [decide_eq_true (rfl : l ++ ims 80 = l ++ ims 80)] at C6
  have HW5 := Lib.hid hw5
  have HALL5 := Lib.hid hall5
  have HH5 := Lib.hid hh5
  have HNZ := Lib.hid hnz
  have HO5 := Lib.hid ho5
  clear hnum hw5 hr5 hall5 hbel5 hlo hh5 hnz ho5 HR4 HH4 HO4
  go_wp2_with fail
  refine C5.mono ?_
  rintro e w5' ⟨rfl, rfl⟩
  clear C5
  go_wp2_with fail
  refine C6.mono ?_
  rintro e w6 ⟨d6, rfl, hq6⟩
  clear C6
  have hh6 := HH5.out.drewN d6
  have hw6 := HW5.out.drewN d6
  have hall6 := HALL5.out.drewN d6
  have ho6 := HO5.out.drewN d6
  rw [← hq6] at hh6 hw6 hall6 ho6
  have C7 := spoilI_any w6 _ p1 _ _ _ _ _ hh6 (by simp) (by simp) (by omega)
  have HH6 := Lib.hid hh6
  have HW6 := Lib.hid hw6
  have HALL6 := Lib.hid hall6
  have HO6 := Lib.hid ho6
  clear hq6 hh6 hw6 hall6 ho6 HH5 HW5 HALL5 HO5
  go_wp2_with fail
  refine C7.mono ?_
  rintro e w7 ⟨rfl, e7⟩
  clear C7
  have hF : ∀ k, ((Value.slice (some ⟨g, 0, none⟩) (l ++ ims 80).length cv).ownBlock = some k ∨ vw.ownBlock = some k) → (w.alloc o).heap.size ≤ k := fun k hk => hk.elim (fun h => (HH6.out.f.lt k h).1) (fun h => (HH6.out.g.lt k h).1)
  have hall7 := HALL6.out.over e7 (fun k hk => by have := hF k hk; have := HZ0.out; omega)
  have hw7 := HW6.out.eff e7 (fun k hk hf => HNZ.out k hk hf)
  have ho7 := HO6.out.eff e7 (fun k hk hf => hf.elim (fun h => own_types HO6.out HH6.out.f (by decide) hk h) (fun h => own_types HO6.out HH6.out.g (by decide) hk h))
  have HW7 := Lib.hid hw7
  have HALL7 := Lib.hid hall7
  have HO7 := Lib.hid ho7
  clear hF hall7 hw7 ho7 e7
  go_wp2
  go_ret2
  exact ⟨nb, risO_len hO HF.out (by omega), va, v5, rfl, HO7.out, HW7.out, HALL7.out⟩

set_option maxRecDepth 100000 in
set_option maxHeartbeats 2000000 in
theorem pl_pck (w0 w : World) (base p : Nat) (v : Value) (bs : List UInt8) (h : Wr w base p v bs) (h0 : w0.heap.size ≤ base) (hb : base ≤ w.heap.size) (hbel : Below w0.heap.size w0 w) (hl : bs.length ≤ 1000000000) (sec b s : Value) (n u i : Int) (a : Option Addr) (k c : Nat) (l : List Int)
    (hrd : Rd w0 (.slice a k c) (intL l)) (hll : l.length ≤ 100000000) (hf : FitL l) (EA : Nat → Addr) (hE : Sent w0 EA) :
    Calls Tryd.prog 62 #[.pointer (some ⟨p, 0, none⟩), .agg #[.int .i64 9, sec, .int .i64 n, .int .u64 u, .int .i64 i, b, s, .slice a k c]] w fun e w' => ∃ nb, nb.length ≤ 20 + 10 * l.length ∧ PutW w base p v bs nb e w' := by
  have hx0 := cells8_new w (.int .i64 9) sec (.int .i64 n) (.int .u64 u) (.int .i64 i) b s (.slice a k c)
  obtain ⟨o, ho⟩ : ∃ o, o = Obj.cells #[.int .i64 9, sec, .int .i64 n, .int .u64 u, .int .i64 i, b, s, .slice a k c] 46 := ⟨_, rfl⟩
  obtain ⟨hw0, hr0⟩ := h.box o
  have hz0 : (w.alloc o).heap.size = w.heap.size + 1 := by simp
  have hB0 : Below w0.heap.size w0 (w.alloc o) := hbel.alloc hbel.size o
  have C1 := handI_any (w.alloc o) a k c l (hrd.below hB0 (Nat.le_refl _)) (by omega)
  have HRD := Lib.hid hrd
  have HE := Lib.hid hE
  have HF := Lib.hid hf
  have HZ0 := Lib.hid hz0
  have HZB := Lib.hid hbel.size
  have HWR := Lib.hid h
  have HBEL := Lib.hid hbel
  have HW0 := Lib.hid hw0
  have HR0 := Lib.hid hr0
  have HB0 := Lib.hid hB0
  have HLT := Lib.hid (fun k (hk : WrB p v k) => (h.ge k hk).2)
  have HGE := Lib.hid (fun k (hk : WrB p v k) => (h.ge k hk).1)
  rw [ho] at C1
  have HO := Lib.hid ho
  rw [← ho] at hx0
  have HX := Lib.hid hx0
  clear hw0 hr0 ho h hx0 hrd hE hf hz0 hB0 hbel
  go_enter Tryd.func62, Tryd.ntmps62
  go_wp2_with fail
  refine C1.mono ?_
  rintro e w1 ⟨p1, vf, vw, rfl, hh, hb1⟩
  clear C1
  rw [← HO.out] at hh hb1
  -- the buffer of what is added
  have hb2 : Below (w.alloc o).heap.size (w.alloc o) (w1.alloc (.cells #[] 5)) := hb1.alloc hb1.size _
  have hz1 := hb1.size
  have hw2 := HW0.out.of_below hb2
  have hr2 := HR0.out.tail hb2
  have hx2 := HX.out.effw (Eff.of_below hb2 (fun _ => False)) (fun f => f)
  have hB2 := HB0.out.trans (hb2.mono (by have := HZ0.out; have := HZB.out; omega))
  have hh2 : HandI (w1.alloc (.cells #[] 5)) (w.alloc o).heap.size p1 vf vw _ _ _ := hh.over (F := fun _ => False) ((Eff.refl _ _).alloc _) (fun _ f => f.elim)
  have hown2 := own_empty w1 w.heap.size 5 (by have := HZ0.out; omega)
  have hz2 : (w1.alloc (.cells #[] 5)).heap.size = w1.heap.size + 1 := by simp
  obtain ⟨d0, d1, d2, d3, d4, d5, d6, d7⟩ := hx2
  have C2 := rpk_any (w1.alloc (.cells #[] 5)) a k c l (HRD.out.below hB2 (Nat.le_refl _)) (by omega) HF.out
  have HW2 := Lib.hid hw2
  have HR2 := Lib.hid hr2
  have HB2 := Lib.hid hB2
  have HH2 := Lib.hid hh2
  have HZ2 := Lib.hid (show w.heap.size ≤ (w1.alloc (.cells #[] 5)).heap.size ∧ (w.alloc o).heap.size ≤ (w1.alloc (.cells #[] 5)).heap.size from ⟨by have := HZ0.out; omega, by omega⟩)
  clear hb1 hb2 hz1 hw2 hr2 hB2 hh2 hown2 hh hz2
  go_wp2_with (fail)
  refine C2.mono ?_
  rintro e w3 ⟨va, rfl, ho3, hb3⟩
  clear C2
  have HLEN := Lib.hid (pckO_len HF.out (by omega))
  have hw3 := HW2.out.of_below hb3
  have hr3 := HR2.out.tail hb3
  have hB3 := HB2.out.trans (hb3.mono (by have := HZ2.out; have := HZ0.out; have := HZB.out; omega))
  have hh3 := HH2.out.over (Eff.of_below hb3 (fun _ => False)) (fun _ f => f.elim)
  have ho3' := own_base ho3 HZ2.out.1
  have hz3 := hb3.size
  obtain ⟨av, nv, cv, rfl⟩ := own_sl hh3.f
  obtain rfl : nv = (l ++ ims 80).length := by have := hh3.f.len; rwa [intL_length] at this
  obtain ⟨g, rfl⟩ := hh3.f.someAt (by rw [List.length_append, ims_length]; omega)
  have hgl := hh3.f.lt g rfl
  have C3 := giveI_any w3 _ p1 g cv vw _ _ l.length hh3 (by simp)
  have hrd3 := (own_to (own_take hh3.f (n := l.length) (by rw [intL_length]; simp)) (show _ = intL l by rw [intL_append, List.take_left' (intL_length l)])).rd
  have HW3 := Lib.hid hw3
  have HR3 := Lib.hid hr3
  have HB3 := Lib.hid hB3
  have HH3 := Lib.hid hh3
  have HO3 := Lib.hid ho3'
  have HRD3 := Lib.hid hrd3
  have HG := Lib.hid hgl
  have HZ3 := Lib.hid hz3
  clear hw3 hr3 hB3 hh3 ho3' ho3 hb3 hrd3 hgl hz3 d0 d1 d2 d3 d4 d5 d6 d7
  go_wp2_with fail
  refine C3.mono ?_
  rintro e w4 ⟨d, rfl, hq⟩
  clear C3
  have hw4 : Wr w4 base p v bs := by rw [hq]; exact HW3.out.drewN d
  have hr4 : Wrote w w4 p v v := by rw [hq]; exact HR3.out.drewN d
  have hB4 : Below w0.heap.size w0 w4 := by rw [hq]; exact below_drewN HB3.out d
  have hh4 := HH3.out.drewN d
  have ho4 := HO3.out.drewN d
  have hrd4 : Rd w4 (.slice (some ⟨g, 0, none⟩) l.length cv) (intL l) := by rw [hq]; exact HRD3.out
  have hz4 : w4.heap.size = w3.heap.size := by rw [hq]; rfl
  rw [← hq] at hh4 ho4
  have hoff : 0 < l.length → ∀ b o, some (⟨g, 0, none⟩ : Addr) = some ⟨b, o, none⟩ → ¬ WrB p v b := fun _ b o e hk => by
    injection e with e; injection e with e _ _; subst e
    have := HLT.out _ hk; have := HG.out.1; have := HZ0.out; omega
  have hbz : base ≤ w4.heap.size := by have := HZ3.out; have := HZ2.out.1; omega
  have C4 := wpck_out w4 base p v bs hw4 hbz (by omega) _ l.length cv l hrd4 (by omega) HF.out EA (HE.out.at hB4) hoff
  have HR4 := Lib.hid hr4
  have HH4 := Lib.hid hh4
  have HO4 := Lib.hid ho4
  have HG4 := Lib.hid (show g < w4.heap.size ∧ w.heap.size ≤ w4.heap.size by have := HG.out; have := HZ3.out; have := HZ2.out; omega)
  clear hq hw4 hr4 hB4 hh4 ho4 hrd4 hz4 hoff hbz HW3 HR3 HB3 HH3 HO3 HRD3
  go_wp2_with fail
  refine C4.mono ?_
  rintro e w5 ⟨er, v5, rfl, hnum, hw5, hr5⟩
  clear C4
  have hall5 := HR4.out.trans hr5
  have hbel5 := HBEL.out.trans ((hall5.below HWR.out hb).mono h0)
  have C5 := hnum w5 (HE.out.at hbel5)
  have hlo : ∀ k, WrB p v k → k < (w.alloc o).heap.size := fun k hk => by have := HLT.out k hk; have := HZ0.out; omega
  have hh5 := HH4.out.over hr5.eff hlo
  have hnz : ∀ k, WrB p v5 k → ¬ ((Value.slice (some ⟨g, 0, none⟩) (l ++ ims 80).length cv).ownBlock = some k ∨ vw.ownBlock = some k) := fun k hk hf => by
    have h1 : (w.alloc o).heap.size ≤ k ∧ k < w4.heap.size := hf.elim (fun h => HH4.out.f.lt k h) (fun h => HH4.out.g.lt k h)
    rcases hk with hk | hk
    · have := HLT.out k (.inl hk); have := HZ0.out; omega
    · rcases hr5.fresh k hk with h2 | h2
      · have := HLT.out k (.inr h2); have := HZ0.out; omega
      · omega
  have ho5 := HO4.out.eff hr5.eff (fun k hk hf => by have := HLT.out k hf; have := (HO4.out.lt k hk).1; omega)
  have C6 := isame_any w5 _ p1 _ _ _ _ _ hh5 (by rw [List.length_append, ims_length]; omega) (by rw [List.length_append, ims_length]; omega)
  rw [decide_eq_true (rfl : l ++ ims 80 = l ++ ims 80)] at C6
  have HW5 := Lib.hid hw5
  have HALL5 := Lib.hid hall5
  have HH5 := Lib.hid hh5
  have HNZ := Lib.hid hnz
  have HO5 := Lib.hid ho5
  clear hnum hw5 hr5 hall5 hbel5 hlo hh5 hnz ho5 HR4 HH4 HO4
  go_wp2_with fail
  refine C5.mono ?_
  rintro e w5' ⟨rfl, rfl⟩
  clear C5
  go_wp2_with fail
  refine C6.mono ?_
  rintro e w6 ⟨d6, rfl, hq6⟩
  clear C6
  have hh6 := HH5.out.drewN d6
  have hw6 := HW5.out.drewN d6
  have hall6 := HALL5.out.drewN d6
  have ho6 := HO5.out.drewN d6
  rw [← hq6] at hh6 hw6 hall6 ho6
  have C7 := spoilI_any w6 _ p1 _ _ _ _ _ hh6 (by simp) (by simp) (by omega)
  have HH6 := Lib.hid hh6
  have HW6 := Lib.hid hw6
  have HALL6 := Lib.hid hall6
  have HO6 := Lib.hid ho6
  clear hq6 hh6 hw6 hall6 ho6 HH5 HW5 HALL5 HO5
  go_wp2_with fail
  refine C7.mono ?_
  rintro e w7 ⟨rfl, e7⟩
  clear C7
  have hF : ∀ k, ((Value.slice (some ⟨g, 0, none⟩) (l ++ ims 80).length cv).ownBlock = some k ∨ vw.ownBlock = some k) → (w.alloc o).heap.size ≤ k := fun k hk => hk.elim (fun h => (HH6.out.f.lt k h).1) (fun h => (HH6.out.g.lt k h).1)
  have hall7 := HALL6.out.over e7 (fun k hk => by have := hF k hk; have := HZ0.out; omega)
  have hw7 := HW6.out.eff e7 (fun k hk hf => HNZ.out k hk hf)
  have ho7 := HO6.out.eff e7 (fun k hk hf => hf.elim (fun h => own_types HO6.out HH6.out.f (by decide) hk h) (fun h => own_types HO6.out HH6.out.g (by decide) hk h))
  have HW7 := Lib.hid hw7
  have HALL7 := Lib.hid hall7
  have HO7 := Lib.hid ho7
  clear hF hall7 hw7 ho7 e7
  go_wp2
  go_ret2
  exact ⟨(pckO l).1, HLEN.out, va, v5, rfl, HO7.out, HW7.out, HALL7.out⟩

set_option maxRecDepth 100000 in
set_option maxHeartbeats 2000000 in
theorem pl_else (w0 w : World) (base p : Nat) (v : Value) (bs : List UInt8) (h : Wr w base p v bs) (h0 : w0.heap.size ≤ base) (hb : base ≤ w.heap.size) (hbel : Below w0.heap.size w0 w) (hl : bs.length ≤ 1000000000) (sec b s : Value) (kd n u i : Int) (h8 : kd ≠ 8) (h9 : kd ≠ 9) (a : Option Addr) (k c : Nat) (l : List Int)
    (hrd : Rd w0 (.slice a k c) (intL l)) (hll : l.length ≤ 100000000) (hf : FitL l) (EA : Nat → Addr) (hE : Sent w0 EA) :
    Calls Tryd.prog 62 #[.pointer (some ⟨p, 0, none⟩), .agg #[.int .i64 kd, sec, .int .i64 n, .int .u64 u, .int .i64 i, b, s, .slice a k c]] w fun e w' => ∃ nb, nb.length ≤ 20 + 10 * l.length ∧ PutW w base p v bs nb e w' := by
  have hx0 := cells8_new w (.int .i64 kd) sec (.int .i64 n) (.int .u64 u) (.int .i64 i) b s (.slice a k c)
  obtain ⟨o, ho⟩ : ∃ o, o = Obj.cells #[.int .i64 kd, sec, .int .i64 n, .int .u64 u, .int .i64 i, b, s, .slice a k c] 46 := ⟨_, rfl⟩
  obtain ⟨hw0, hr0⟩ := h.box o
  have hz0 : (w.alloc o).heap.size = w.heap.size + 1 := by simp
  have hB0 : Below w0.heap.size w0 (w.alloc o) := hbel.alloc hbel.size o
  have C1 := handI_any (w.alloc o) a k c l (hrd.below hB0 (Nat.le_refl _)) (by omega)
  have HRD := Lib.hid hrd
  have HE := Lib.hid hE
  have HF := Lib.hid hf
  have HZ0 := Lib.hid hz0
  have HZB := Lib.hid hbel.size
  have HWR := Lib.hid h
  have HBEL := Lib.hid hbel
  have HW0 := Lib.hid hw0
  have HR0 := Lib.hid hr0
  have HB0 := Lib.hid hB0
  have HLT := Lib.hid (fun k (hk : WrB p v k) => (h.ge k hk).2)
  have HGE := Lib.hid (fun k (hk : WrB p v k) => (h.ge k hk).1)
  rw [ho] at C1
  have HO := Lib.hid ho
  rw [← ho] at hx0
  have HX := Lib.hid hx0
  clear hw0 hr0 ho h hx0 hrd hE hf hz0 hB0 hbel
  have t8 : (kd == 8) = false := beq_eq_false_iff_ne.2 h8
  have t9 : (kd == 9) = false := beq_eq_false_iff_ne.2 h9
  clear h8 h9
  go_enter Tryd.func62, Tryd.ntmps62
  go_wp2_with fail
  refine C1.mono ?_
  rintro e w1 ⟨p1, vf, vw, rfl, hh, hb1⟩
  clear C1
  rw [← HO.out] at hh hb1
  -- the buffer of what is added
  have hb2 : Below (w.alloc o).heap.size (w.alloc o) (w1.alloc (.cells #[] 5)) := hb1.alloc hb1.size _
  have hz1 := hb1.size
  have hw2 := HW0.out.of_below hb2
  have hr2 := HR0.out.tail hb2
  have hx2 := HX.out.effw (Eff.of_below hb2 (fun _ => False)) (fun f => f)
  have hB2 := HB0.out.trans (hb2.mono (by have := HZ0.out; have := HZB.out; omega))
  have hh2 : HandI (w1.alloc (.cells #[] 5)) (w.alloc o).heap.size p1 vf vw _ _ _ := hh.over (F := fun _ => False) ((Eff.refl _ _).alloc _) (fun _ f => f.elim)
  have hown2 := own_empty w1 w.heap.size 5 (by have := HZ0.out; omega)
  have hz2 : (w1.alloc (.cells #[] 5)).heap.size = w1.heap.size + 1 := by simp
  obtain ⟨d0, d1, d2, d3, d4, d5, d6, d7⟩ := hx2
  obtain ⟨av, nv, cv, rfl⟩ := own_sl hh2.f
  obtain rfl : nv = (l ++ ims 80).length := by have := hh2.f.len; rwa [intL_length] at this
  obtain ⟨g, rfl⟩ := hh2.f.someAt (by rw [List.length_append, ims_length]; omega)
  have C6 := isame_any (w1.alloc (.cells #[] 5)) _ p1 _ _ _ _ _ hh2 (by rw [List.length_append, ims_length]; omega) (by rw [List.length_append, ims_length]; omega)
  rw [decide_eq_true (rfl : l ++ ims 80 = l ++ ims 80)] at C6
  have HW5 := Lib.hid hw2
  have HALL5 := Lib.hid hr2
  have HH5 := Lib.hid hh2
  have HO5 := Lib.hid hown2
  have HNZ := Lib.hid (show ∀ k, WrB p v k → ¬ ((Value.slice (some ⟨g, 0, none⟩) (l ++ ims 80).length cv).ownBlock = some k ∨ vw.ownBlock = some k) from fun k hk hf => by
    have h1 : (w.alloc o).heap.size ≤ k := hf.elim (fun h => (hh2.f.lt k h).1) (fun h => (hh2.g.lt k h).1)
    have := HLT.out k hk; have := HZ0.out; omega)
  clear hb1 hb2 hz1 hw2 hr2 hB2 hh2 hown2 hh
  go_wp2_with fail
  refine C6.mono ?_
  rintro e w6 ⟨d6, rfl, hq6⟩
  clear C6
  have hh6 := HH5.out.drewN d6
  have hw6 := HW5.out.drewN d6
  have hall6 := HALL5.out.drewN d6
  have ho6 := HO5.out.drewN d6
  rw [← hq6] at hh6 hw6 hall6 ho6
  have C7 := spoilI_any w6 _ p1 _ _ _ _ _ hh6 (by simp) (by simp) (by omega)
  have HH6 := Lib.hid hh6
  have HW6 := Lib.hid hw6
  have HALL6 := Lib.hid hall6
  have HO6 := Lib.hid ho6
  clear hq6 hh6 hw6 hall6 ho6 HH5 HW5 HALL5 HO5
  go_wp2_with fail
  refine C7.mono ?_
  rintro e w7 ⟨rfl, e7⟩
  clear C7
  have hF : ∀ k, ((Value.slice (some ⟨g, 0, none⟩) (l ++ ims 80).length cv).ownBlock = some k ∨ vw.ownBlock = some k) → (w.alloc o).heap.size ≤ k := fun k hk => hk.elim (fun h => (HH6.out.f.lt k h).1) (fun h => (HH6.out.g.lt k h).1)
  have hall7 := HALL6.out.over e7 (fun k hk => by have := hF k hk; have := HZ0.out; omega)
  have hw7 := HW6.out.eff e7 (fun k hk hf => HNZ.out k hk hf)
  have ho7 := HO6.out.eff e7 (fun k hk hf => hf.elim (fun h => own_types HO6.out HH6.out.f (by decide) hk h) (fun h => own_types HO6.out HH6.out.g (by decide) hk h))
  have HW7 := Lib.hid hw7
  have HALL7 := Lib.hid hall7
  have HO7 := Lib.hid ho7
  clear hF hall7 hw7 ho7 e7
  go_wp2
  go_ret2
  exact ⟨[], by simp, _, v, rfl, HO7.out, by rw [List.append_nil]; exact HW7.out, HALL7.out⟩

end Go.Proofs.YtmmflhippbegaaaDoor
