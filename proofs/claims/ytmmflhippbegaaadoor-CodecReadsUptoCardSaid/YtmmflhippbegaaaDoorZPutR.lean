/- put: the arm of Raw. -/
import Derived.Test.YtmmflhippbegaaaDoorZPutW
import Derived.Test.YtmmflhippbegaaaDoorZHand
namespace Go.Proofs.YtmmflhippbegaaaDoor
set_option linter.unusedVariables false
open Go.ChangeShapes Go.WideShapes Go.ChangeAt Go.RowKit

/-- What lies below lo turns: a hand from lo on stays. -/
theorem HandB.over {F : Nat → Prop} {w w' : World} {lo p : Nat} {vf vw : Value} {full want : List UInt8} {n : Nat} (h : HandB w lo p vf vw full want n) (e : Eff F w w') (hF : ∀ k, F k → k < lo) : HandB w' lo p vf vw full want n :=
  ⟨(e.block p (lt_of_heap h.blk) (fun hk => by have := hF p hk; have := h.hp; omega)).trans h.blk, h.hp,
    h.f.eff e (fun k hk hq => by have := hF k hq; have := (h.f.lt k hk).1; omega), h.g.eff e (fun k hk hq => by have := hF k hq; have := (h.g.lt k hk).1; omega), h.ne⟩
theorem HandB.drewN {w : World} {lo p : Nat} {vf vw : Value} {full want : List UInt8} {n : Nat} (h : HandB w lo p vf vw full want n) (d : Nat) : HandB (w.drewN d) lo p vf vw full want n := ⟨h.blk, h.hp, h.f.drewN d, h.g.drewN d, h.ne⟩

set_option maxRecDepth 100000 in
set_option maxHeartbeats 1000000 in
theorem pw_raw (w : World) (base p : Nat) (v : Value) (bs : List UInt8) (h : Wr w base p v bs) (hb : base ≤ w.heap.size) (hl : bs.length ≤ 1000000000) (sec s l : Value) (n u i : Int) (a : Option Addr) (k c : Nat) (cs : List UInt8) (hrd : Rd w (.slice a k c) (bytesV cs)) (hcs : cs.length ≤ 1000000000) (hlow : 0 < cs.length → ∀ b o, a = some ⟨b, o, none⟩ → b < base) :
    Calls Tryd.prog 20 #[.pointer (some ⟨p, 0, none⟩), .agg #[.int .i64 6, sec, .int .i64 n, .int .u64 u, .int .i64 i, .slice a k c, s, l]] w (PutW w base p v bs cs) := by
  have hx0 := cells8_new w (.int .i64 6) sec (.int .i64 n) (.int .u64 u) (.int .i64 i) (.slice a k c) s l
  obtain ⟨o, ho⟩ : ∃ o, o = Obj.cells #[.int .i64 6, sec, .int .i64 n, .int .u64 u, .int .i64 i, .slice a k c, s, l] 46 := ⟨_, rfl⟩
  obtain ⟨h0, hw0⟩ := h.box o
  have hb0 : base ≤ (w.alloc o).heap.size := by simp; omega
  have hz0 : (w.alloc o).heap.size = w.heap.size + 1 := by simp
  have hrd0 := hrd.below ((Below.refl w.heap.size w).alloc (Nat.le_refl _) o) (Nat.le_refl _)
  have C1 := hand_any (w.alloc o) a k c cs hrd0 hcs
  have hlt0 : ∀ k, WrB p v k → k < w.heap.size := fun k hk => (h.ge k hk).2
  have HRD := Lib.hid hrd
  have HW := Lib.hid h
  have HLOW := Lib.hid hlow
  have HBX := Lib.hid ((Below.refl w.heap.size w).alloc (Nat.le_refl _) o)
  have HW0 := Lib.hid hw0
  have H0 := Lib.hid h0
  have HLT := Lib.hid hlt0
  have HZ0 := Lib.hid hz0
  rw [ho] at C1
  have HO := Lib.hid ho
  rw [← ho] at hx0
  have HX := Lib.hid hx0
  clear h0 hw0 ho h hx0 hlt0 hrd hrd0 hz0 hlow
  go_enter Tryd.func20, Tryd.ntmps20
  go_wp2_with fail
  refine C1.mono ?_
  rintro e w1 ⟨p1, vf, vw, rfl, hh, hb1⟩
  clear C1
  rw [← HO.out] at hh hb1
  have hw1 := H0.out.of_below hb1
  have hall1 := HW0.out.tail hb1
  have hx1 := HX.out.effw (Eff.of_below hb1 (fun _ => False)) (fun f => f)
  have hB1 := HBX.out.trans (hb1.mono (by have := HZ0.out; omega))
  obtain ⟨av, nv, cv, rfl⟩ := own_sl hh.f
  obtain rfl : nv = (cs ++ hms 80).length := by have := hh.f.len; rwa [bytesV_length] at this
  obtain ⟨g, rfl⟩ := hh.f.someAt (by rw [List.length_append, hms_length]; omega)
  have C2 := give_any w1 _ p1 g cv vw _ _ cs.length hh (by simp)
  have hrd2 := (own_to (own_take hh.f (n := cs.length) (by rw [bytesV_length]; simp)) (show _ = bytesV cs by rw [bytesV_append, List.take_left' (bytesV_length cs)])).rd
  have HRD2 := Lib.hid hrd2
  have HH := Lib.hid hh
  have HW1 := Lib.hid hw1
  have HALL := Lib.hid hall1
  have HX1 := Lib.hid hx1
  have HB1 := Lib.hid hB1
  have hz1 := hb1.size
  have HZ1 := Lib.hid hz1
  clear hh hb1 hw1 hall1 hx1 hB1 hrd2 hz1
  go_wp2_with fail
  refine C2.mono ?_
  rintro e w2 ⟨d, rfl, hw2⟩
  clear C2
  have hww : Wr w2 base p v bs := by rw [hw2]; exact HW1.out.drewN d
  have hrd2 : Rd w2 (.slice (some ⟨g, 0, none⟩) cs.length cv) (bytesV cs) := by rw [hw2]; exact HRD2.out
  have hh2 := HH.out.drewN d
  have hall2 := HALL.out.drewN d
  have hx2 : Cells8 (w1.drewN d) _ _ _ _ _ _ _ _ _ := HX1.out.effw ((Eff.refl (fun _ => False) _).drewN d) (fun f => f)
  have hB2 := below_drewN HB1.out d
  have hbz : base ≤ w2.heap.size := by rw [hw2]; show base ≤ w1.heap.size; have := HZ1.out; have := HZ0.out; omega
  rw [← hw2] at hh2 hall2 hx2 hB2
  have C3 := wraw_any w2 base p v bs hww hbz (by omega) _ cs hrd2 (by omega)
  have HH2 := Lib.hid hh2
  have HALL2 := Lib.hid hall2
  have HX2 := Lib.hid hx2
  have HB2 := Lib.hid hB2
  have HLT2 := Lib.hid (fun k (hk : WrB p v k) => (hww.ge k hk).2)
  clear hw2 hww hrd2 hh2 hall2 hx2 hB2 HH HW1 HALL HX1 HB1 HRD2
  go_wp2_with fail
  refine C3.mono ?_
  rintro e w3 ⟨rfl, v3, hw3, hwr3⟩
  clear C3
  have hlo : ∀ k, WrB p v k → k < (w.alloc o).heap.size := fun k hk => by have := HLT.out k hk; have := HZ0.out; omega
  have hh3 := HH2.out.over hwr3.eff hlo
  have hall3 := HALL2.out.trans hwr3
  have hx3 := HX2.out.effw hwr3.eff (fun hk => by have := HLT.out _ hk; omega)
  have hnz : ∀ k, WrB p v3 k → ¬ ((Value.slice (some ⟨g, 0, none⟩) (cs ++ hms 80).length cv).ownBlock = some k ∨ vw.ownBlock = some k) := fun k hk hf => by
    have h1 : (w.alloc o).heap.size ≤ k ∧ k < w2.heap.size := hf.elim (fun h => HH2.out.f.lt k h) (fun h => HH2.out.g.lt k h)
    rcases hk with hk | hk
    · have := HLT.out k (.inl hk); have := HZ0.out; omega
    · rcases hwr3.fresh k hk with h2 | h2
      · have := HLT.out k (.inr h2); have := HZ0.out; omega
      · omega
  have HNZ := Lib.hid hnz
  have C4 := bsame_any w3 _ p1 _ _ _ _ _ hh3
  have HH3 := Lib.hid hh3
  have HALL3 := Lib.hid hall3
  have HX3 := Lib.hid hx3
  have HW3 := Lib.hid hw3
  have HB3 := Lib.hid (⟨hwr3.eff.os.trans HB2.out.os, hwr3.eff.tape.trans HB2.out.tape, hwr3.eff.output.trans HB2.out.output⟩ : w3.os = w.os ∧ w3.tape = w.tape ∧ w3.output = w.output)
  rw [show (cs ++ hms 80 == cs ++ hms 80) = true from beq_self_eq_true _] at C4
  clear hh3 hall3 hx3 hw3 hwr3 HH2 HALL2 HX2 hlo hnz
  go_wp2_with fail
  refine C4.mono ?_
  rintro e w4 ⟨d4, rfl, hw4⟩
  clear C4
  have hh4 := HH3.out.drewN d4
  have hall4 := HALL3.out.drewN d4
  have hx4 : Cells8 (w3.drewN d4) _ _ _ _ _ _ _ _ _ := HX3.out.effw ((Eff.refl (fun _ => False) _).drewN d4) (fun f => f)
  have hw4' := HW3.out.drewN d4
  rw [← hw4] at hh4 hall4 hx4 hw4'
  have C5 := spoil_any w4 _ p1 _ _ _ _ _ hh4 (by simp) (by simp) (by omega)
  have HH4 := Lib.hid hh4
  have HALL4 := Lib.hid hall4
  have HX4 := Lib.hid hx4
  have HW4 := Lib.hid hw4'
  clear hw4 hh4 hall4 hx4 hw4' HH3 HALL3 HX3 HW3
  go_wp2_with fail
  refine C5.mono ?_
  rintro e w5 ⟨rfl, hh5, e5⟩
  clear C5
  have hF : ∀ k, ((Value.slice (some ⟨g, 0, none⟩) (cs ++ hms 80).length cv).ownBlock = some k ∨ vw.ownBlock = some k) → (w.alloc o).heap.size ≤ k := fun k hk => hk.elim (fun h => (HH4.out.f.lt k h).1) (fun h => (HH4.out.g.lt k h).1)
  have hall5 := HALL4.out.over e5 (fun k hk => by have := hF k hk; have := HZ0.out; omega)
  have hx5 := HX4.out.effw e5 (fun hk => by have := hF _ hk; have := HZ0.out; omega)
  have hw5 := HW4.out.eff e5 (fun k hk hf => HNZ.out k hk hf)
  have hbel := hall5.below HW.out hb
  have hrd5 := HRD.out.eff0 (F := fun k => base ≤ k) ⟨hbel.os, hbel.tape, hbel.output, hbel.size, fun k _ hk => hbel.block k (by omega)⟩ (fun z b f _ _ e => by rw [bytesV_length] at z; injection e with e _ _; have := HLOW.out z b f e; omega)
  have d5 : (w5.alloc (.cells #[] 5)).cell? ⟨w.heap.size, 5, none⟩ = some (.slice a k c) := (hx5.effw ((Eff.refl (fun _ => False) w5).alloc _) (fun f => f)).c5
  have HLT5 := Lib.hid (fun k (hk : WrB p v3 k) => (hw5.ge k hk).2)
  have hz5 : w.heap.size ≤ w5.heap.size := hall5.eff.size
  have hown := own_empty w5 w.heap.size 5 hz5
  have hrd6 : Rd (w5.alloc (.cells #[] 5)) (.slice a k c) (bytesV cs) := hrd5.below ((Below.refl w5.heap.size w5).alloc (Nat.le_refl _) _) (Nat.le_refl _)
  have hw6 := hw5.box (.cells #[] 5)
  have hbase6 : w.heap.size ≤ (w5.alloc (.cells #[] 5)).heap.size := by simp; omega
  have hlen6 : ([] : List Value).length + (bytesV cs).length < 1000000000001 := by rw [bytesV_length]; simp; omega
  have HO1 := Lib.hid (bytesV_one cs)
  have HALL6 := Lib.hid (hall5.trans hw6.2)
  have HW6 := Lib.hid hw6.1
  obtain ⟨A, N, C, hav⟩ : ∃ A N C, (Value.slice (some ⟨w5.heap.size, 0, none⟩) 0 0) = .slice A N C := ⟨_, _, _, rfl⟩
  clear hw6 hw5 hx5 hrd5 hbel hall5 hF e5 hh5 HW4 HX4 HALL4 HH4 hav
  go_wp2_with (at_builtin; with_reducible refine apN elBytes hown hrd6 HO1.out hlen6 hbase6 rfl _ _ rfl rfl rfl ?_)
  intro v7 w7 g1 g2 g3 g4
  have e7 : Eff (fun k => k = w5.heap.size) (w5.alloc (.cells #[] 5)) w7 := (Eff.refl _ _).grown g4 (fun i hi _ => by simpa [Value.ownBlock] using hi.symm)
  have hw7 := HW6.out.eff e7 (fun k hk hq => by have := HLT5.out k hk; omega)
  have hall7 := HALL6.out.over e7 (fun k hk => by omega)
  have HG := Lib.hid g1
  clear g1 g2 g3 g4 e7
  go_wp2
  go_ret2
  exact ⟨v7, v3, rfl, HG.out, hw7, hall7⟩
end Go.Proofs.YtmmflhippbegaaaDoor
