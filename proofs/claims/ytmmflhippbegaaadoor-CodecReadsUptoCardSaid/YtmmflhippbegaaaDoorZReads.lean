/- The walk of the law CodecReads. -/
import Derived.Test.YtmmflhippbegaaaDoorZAskR
import Derived.Test.YtmmflhippbegaaaDoorZLives
import Derived.Test.YtmmflhippbegaaaDoorZPutR
import Derived.Test.YtmmflhippbegaaaDoorZWire
import Derived.Deep.RegionHeld3
namespace Go.Proofs.YtmmflhippbegaaaDoor
set_option linter.unusedVariables false
open Go.ChangeShapes Go.WideShapes Go.ChangeAt Go.RowKit

theorem Rdr.lowR {w : World} {B B0 p : Nat} {v : Value} {bs : List UInt8} {k : Nat} (h : Rdr w B p v bs k) (hB : B0 ≤ B) : Rdr w B0 p v bs k := ⟨h.blk, Nat.le_trans hB h.hp, own_base h.own hB, h.le, h.sm⟩
theorem HandB.underR {w w' : World} {lo p : Nat} {vf vw : Value} {full want : List UInt8} {n : Nat} (h : HandB w lo p vf vw full want n) (hb : Below w.heap.size w w') : HandB w' lo p vf vw full want n :=
  h.over (Eff.of_below hb (fun _ => False)) (fun _ f => f.elim)
/-- The blocks of a hand. -/
theorem HandB.lt {w : World} {lo p : Nat} {vf vw : Value} {full want : List UInt8} {n : Nat} (h : HandB w lo p vf vw full want n) : ∀ k, (vf.ownBlock = some k ∨ vw.ownBlock = some k) → lo ≤ k ∧ k < w.heap.size := by
  rintro k (hk | hk)
  · exact h.f.lt k hk
  · exact h.g.lt k hk
theorem HandB.under2 {F : Nat → Prop} {w w' : World} {lo p : Nat} {vf vw : Value} {full want : List UInt8} {n : Nat} (h : HandB w lo p vf vw full want n) (e : Eff F w w') {H : Nat} (hF : ∀ k, F k → H ≤ k) (hp : p < H) (h1 : ∀ k, (vf.ownBlock = some k ∨ vw.ownBlock = some k) → k < H) : HandB w' lo p vf vw full want n :=
  ⟨(e.block p (lt_of_heap h.blk) (fun hk => by have := hF p hk; omega)).trans h.blk, h.hp,
    h.f.eff e (fun k hk hq => by have := hF k hq; have := h1 k (.inl hk); omega), h.g.eff e (fun k hk hq => by have := hF k hq; have := h1 k (.inr hk); omega), h.ne⟩

/-- The state at the loop's start. -/
theorem reads_state (w : World) (B pr q1 q2 : Nat) (v1 v2 : Value) (bs cs : List UInt8) (x1 x2 : Value) (hB : B ≤ w.heap.size) (h1 : Rdr w B q1 v1 bs 0) (h2 : Rdr w B q2 v2 cs 0) (hq : q1 < q2) (hpr : w.heap[pr]? = some (.cells #[.pointer (some ⟨q1, 0, none⟩), .pointer (some ⟨q2, 0, none⟩)] 54 (0, 0))) (hx1 : Own w B 5 x1 (bytesV bs)) (hx2 : Own w B 5 x2 (bytesV cs)) :
    RS (((w.alloc (.cells #[x1, x2] 37)).alloc (.cells #[.int .i64 0, .int .i64 0] 3)).alloc (.cells #[.slice none 0 0, .slice none 0 0, .slice none 0 0] 43)) B (w.heap.size + 1 + 1 + 1) pr (w.heap.size + 1 + 1) w.heap.size (w.heap.size + 1)
      (fun b => bif b then q2 else q1) (fun b => bif b then v2 else v1) (fun b => bif b then x2 else x1) (fun b => bif b then cs else bs) (fun _ => 0) (fun _ => 0) (.slice none 0 0) (.slice none 0 0) [] [] := by
  obtain ⟨W1, e1⟩ : ∃ W, W = w.alloc (.cells #[x1, x2] 37) := ⟨_, rfl⟩
  rw [← e1]
  obtain ⟨W2, e2⟩ : ∃ W, W = W1.alloc (.cells #[.int .i64 0, .int .i64 0] 3) := ⟨_, rfl⟩
  rw [← e2]
  obtain ⟨W3, e3⟩ : ∃ W, W = W2.alloc (.cells #[.slice none 0 0, .slice none 0 0, .slice none 0 0] 43) := ⟨_, rfl⟩
  rw [← e3]
  have s1 : W1.heap.size = w.heap.size + 1 := by subst e1; simp
  have s2 : W2.heap.size = w.heap.size + 2 := by subst e2; simp; omega
  have s3 : W3.heap.size = w.heap.size + 3 := by subst e3; simp; omega
  have E0 : Below w.heap.size w W3 := by
    rw [e3, e2, e1]; exact (((Below.refl _ _).alloc (Nat.le_refl _) _).alloc (by simp) _).alloc (by simp; omega) _
  have k1 : W3.heap[w.heap.size]? = some (.cells #[x1, x2] 37 (0, 0)) := by
    rw [e3, (((Below.refl W2.heap.size W2).alloc (Nat.le_refl _) _).block _ (by omega)), e2, (((Below.refl W1.heap.size W1).alloc (Nat.le_refl _) _).block _ (by omega)), e1]; exact heap_alloc_new w _
  have k2 : W3.heap[w.heap.size + 1]? = some (.cells #[.int .i64 0, .int .i64 0] 3 (0, 0)) := by
    rw [e3, (((Below.refl W2.heap.size W2).alloc (Nat.le_refl _) _).block _ (by omega)), e2, ← s1]; exact heap_alloc_new W1 _
  have k3 : W3.heap[w.heap.size + 1 + 1]? = some (.cells #[.slice none 0 0, .slice none 0 0, .slice none 0 0] 43 (0, 0)) := by
    rw [e3, show w.heap.size + 1 + 1 = W2.heap.size by omega]; exact heap_alloc_new W2 _
  refine ⟨fun b => ?_, by show q1 ≠ q2; omega, (E0.block _ (lt_of_heap hpr)).trans hpr, k1, fun b => ?_, k2, by omega, ⟨k3, by omega, own_nil _ _ _, own_nil _ _ _, fun _ => rfl, fun _ => rfl⟩, ⟨fun _ => [], rec_nil _ _ _, fun _ => by simp⟩, ⟨fun _ => [], rec_nil _ _ _, fun _ => by simp⟩, ?_, ?_, fun b q hq => ?_, fun b q hq => ?_, by omega, by simp [Value.ownBlock], by omega⟩
  · cases b
    · exact h1.underR E0
    · exact h2.underR E0
  · cases b
    · exact hx1.below E0 (Nat.le_refl _)
    · exact hx2.below E0 (Nat.le_refl _)
  · rintro q ⟨i, y, hy, _⟩; simp at hy
  · rintro q ⟨i, y, hy, _⟩; simp at hy
  · cases b
    · have := (h1.own.lt q hq).2; omega
    · have := (h2.own.lt q hq).2; omega
  · cases b
    · have := (hx1.lt q hq).2; omega
    · have := (hx2.lt q hq).2; omega

set_option maxRecDepth 100000 in
set_option maxHeartbeats 40000000 in
theorem reads_walk (w : World) (ab : Option Addr) (nb cb : Nat) (bs : List UInt8) (hrb : Rd w (.slice ab nb cb) (bytesV bs)) (hbl : bs.length ≤ 1048576) (ac : Option Addr) (nc cc : Nat) (cs : List UInt8) (hrc : Rd w (.slice ac nc cc) (bytesV cs)) (hcl : cs.length ≤ 1048576)
    (a : Option Addr) (m c : Nat) (ops : List OpV) (hops : RdOps w a m ops) (hol : ops.length ≤ 1048576) (hon : ∀ o ∈ ops, -9223372036854775808 ≤ o.n ∧ o.n ≤ 9223372036854775807)
    (EA : Nat → Addr) (hS : Sent w EA) (hE : RErr w EA) (hG : GLow w.heap.size) :
    Calls Tryd.prog 5 #[.slice ab nb cb, .slice ac nc cc, .slice a m c] w fun e w' => e = .returned (.bool true) ∧ Below w.heap.size w w' := by
  obtain rfl := hops.1
  obtain rfl : nb = bs.length := by obtain ⟨A, c', h, _⟩ := hrb; injection h with _ h _; rw [h, bytesV_length]
  obtain rfl : nc = cs.length := by obtain ⟨A, c', h, _⟩ := hrc; injection h with _ h _; rw [h, bytesV_length]
  have C0 := lives_any w (errV EA) hE.s hE.v
  have HOPS := Lib.hid hops
  have HS := Lib.hid hS
  have HON := Lib.hid hon
  have HRB := Lib.hid hrb
  have HRC := Lib.hid hrc
  have HG := Lib.hid hG
  clear hops hS hE hon hrb hrc hG
  go_enter Tryd.func5, Tryd.ntmps5
  go_wp2_with fail
  refine C0.mono ?_
  rintro e w1 ⟨rfl, hb1⟩
  clear C0
  have C1 := hand_any w1 ab _ cb bs (HRB.out.below hb1 (Nat.le_refl _)) (by omega)
  have HB1 := Lib.hid hb1
  clear hb1
  go_wp2_with fail
  refine C1.mono ?_
  rintro e w2 ⟨p1, vf1, vg1, rfl, hh1, hb2⟩
  clear C1
  have hbw2 := HB1.out.trans (hb2.mono HB1.out.size)
  have s01 : w.heap.size ≤ w1.heap.size := HB1.out.size
  have s12 : w1.heap.size ≤ w2.heap.size := hb2.size
  obtain ⟨a1, n1, c1, rfl⟩ := own_sl hh1.f
  obtain rfl : n1 = (bs ++ hms 80).length := by have := hh1.f.len; rwa [bytesV_length] at this
  obtain ⟨g1, rfl⟩ := hh1.f.someAt (by rw [List.length_append, hms_length]; omega)
  have C2 := hand_any w2 ac _ cc cs (HRC.out.below hbw2 (Nat.le_refl _)) (by omega)
  have HH1 := Lib.hid hh1
  have HB2 := Lib.hid hbw2
  clear hh1 hb2 hbw2 HB1
  go_wp2_with fail
  refine C2.mono ?_
  rintro e w3 ⟨p2, vf2, vg2, rfl, hh2, hb3⟩
  clear C2
  have hbw3 := HB2.out.trans (hb3.mono HB2.out.size)
  have hh1 := HH1.out.underR hb3
  have hlt1 := HH1.out.lt
  have hlt2 := hh2.lt
  have s23 : w2.heap.size ≤ w3.heap.size := hb3.size
  have hp1 := lt_of_heap HH1.out.blk
  obtain ⟨a2, n2, c2, rfl⟩ := own_sl hh2.f
  obtain rfl : n2 = (cs ++ hms 80).length := by have := hh2.f.len; rwa [bytesV_length] at this
  obtain ⟨g2, rfl⟩ := hh2.f.someAt (by rw [List.length_append, hms_length]; omega)
  have C3 := give_any w3 _ p1 g1 c1 vg1 _ _ _ hh1 (by simp)
  have hr1 := (own_to (own_take hh1.f (n := bs.length) (by rw [bytesV_length]; simp)) (show _ = bytesV bs by rw [bytesV_append, List.take_left' (bytesV_length bs)])).rd
  have HH2 := Lib.hid hh2
  have HH1' := Lib.hid hh1
  have HLT1 := Lib.hid hlt1
  have HLT2 := Lib.hid hlt2
  have HP1 := Lib.hid hp1
  have HB3 := Lib.hid hbw3
  have HR1 := Lib.hid hr1
  clear hh1 hh2 hb3 hbw3 hlt1 hlt2 hp1 hr1 HH1 HB2
  go_wp2_with fail
  refine C3.mono ?_
  rintro e w4 ⟨d, rfl, hw4⟩
  clear C3
  have hh1 := HH1'.out.drewN d
  have hh2 := HH2.out.drewN d
  have hbw4 := below_drewN HB3.out d
  have hr1 : Rd (w3.drewN d) (.slice (some ⟨g1, 0, none⟩) bs.length c1) (bytesV bs) := HR1.out
  rw [← hw4] at hh1 hh2 hbw4 hr1
  have hz4 : w4.heap.size = w3.heap.size := by rw [hw4]; rfl
  have C4 := nr_any w4 (some ⟨g1, 0, none⟩) _ c1 bs hr1 (by omega)
  have HH1 := Lib.hid hh1
  have HH2b := Lib.hid hh2
  have HB4 := Lib.hid hbw4
  have s34 : w3.heap.size ≤ w4.heap.size := by omega
  clear hh1 hh2 hbw4 hr1 hw4 hz4 HH1' HH2 HB3 HR1
  go_wp2_with fail
  refine C4.mono ?_
  rintro e w5 ⟨q1, v1, rfl, hd1, hb5⟩
  clear C4
  have hbw5 := HB4.out.trans (hb5.mono HB4.out.size)
  have s45 : w4.heap.size ≤ w5.heap.size := hb5.size
  have hh1 := HH1.out.underR hb5
  have hh2 := HH2b.out.underR hb5
  have C5 := give_any w5 _ p2 g2 c2 vg2 _ _ _ hh2 (by simp)
  have hr2 := (own_to (own_take hh2.f (n := cs.length) (by rw [bytesV_length]; simp)) (show _ = bytesV cs by rw [bytesV_append, List.take_left' (bytesV_length cs)])).rd
  have HH1c := Lib.hid hh1
  have HH2c := Lib.hid hh2
  have HB5 := Lib.hid hbw5
  have HD1 := Lib.hid hd1
  have HR2 := Lib.hid hr2
  clear hh1 hh2 hb5 hbw5 hd1 hr2 HH1 HH2b HB4
  go_wp2_with fail
  refine C5.mono ?_
  rintro e w6 ⟨d, rfl, hw6⟩
  clear C5
  have hh1 := HH1c.out.drewN d
  have hh2 := HH2c.out.drewN d
  have hd1 := HD1.out.drewN d
  have hbw6 := below_drewN HB5.out d
  have hr2 : Rd (w5.drewN d) (.slice (some ⟨g2, 0, none⟩) cs.length c2) (bytesV cs) := HR2.out
  rw [← hw6] at hh1 hh2 hbw6 hr2 hd1
  have s56 : w5.heap.size ≤ w6.heap.size := by rw [hw6]; exact Nat.le_refl _
  have C6 := nr_any w6 (some ⟨g2, 0, none⟩) _ c2 cs hr2 (by omega)
  have HH1 := Lib.hid hh1
  have HH2 := Lib.hid hh2
  have HB6 := Lib.hid hbw6
  have HD1b := Lib.hid hd1
  clear hh1 hh2 hbw6 hr2 hw6 hd1 HH1c HH2c HB5 HR2 HD1
  go_wp2_with fail
  refine C6.mono ?_
  rintro e w7 ⟨q2, v2, rfl, hd2, hb7⟩
  clear C6
  have s67 : w6.heap.size ≤ w7.heap.size := hb7.size
  have hq12 : q1 < q2 := Nat.lt_of_lt_of_le (lt_of_heap HD1b.out.blk) hd2.hp
  have hbw7 := (HB6.out.trans (hb7.mono HB6.out.size)).alloc (HB6.out.trans (hb7.mono HB6.out.size)).size (.cells #[.pointer (some ⟨q1, 0, none⟩), .pointer (some ⟨q2, 0, none⟩)] 54)
  have hba : Below w6.heap.size w6 (w7.alloc (.cells #[.pointer (some ⟨q1, 0, none⟩), .pointer (some ⟨q2, 0, none⟩)] 54)) := hb7.alloc hb7.size _
  have hh1 := HH1.out.underR hba
  have hh2 := HH2.out.underR hba
  have hd1 := (HD1b.out.underR hba)
  have hd2 := hd2.underR ((Below.refl _ w7).alloc (Nat.le_refl _) (.cells #[.pointer (some ⟨q1, 0, none⟩), .pointer (some ⟨q2, 0, none⟩)] 54))
  have hpr : (w7.alloc (.cells #[.pointer (some ⟨q1, 0, none⟩), .pointer (some ⟨q2, 0, none⟩)] 54)).heap[w7.heap.size]? = some (.cells #[.pointer (some ⟨q1, 0, none⟩), .pointer (some ⟨q2, 0, none⟩)] 54 (0, 0)) := heap_alloc_new w7 _
  have HH1 := Lib.hid hh1
  have HH2 := Lib.hid hh2
  have HB7 := Lib.hid hbw7
  have HD1 := Lib.hid hd1
  have HD2 := Lib.hid hd2
  have HPR := Lib.hid hpr
  have HQ := Lib.hid hq12
  clear hh1 hh2 hb7 hbw7 hba hd1 hd2 hpr hq12 HB6 HD1b
  have C7 := bsame_any _ _ p1 _ _ _ _ _ HH1.out
  rw [beq_self_eq_true] at C7
  go_wp2_with fail
  refine C7.mono ?_
  rintro e w8 ⟨d, rfl, hw8⟩
  clear C7
  have hh1 := HH1.out.drewN d
  have hh2 := HH2.out.drewN d
  have hb8 := below_drewN HB7.out d
  have hd1 := HD1.out.drewN d
  have hd2 := HD2.out.drewN d
  have hpr : ((w7.alloc (.cells #[.pointer (some ⟨q1, 0, none⟩), .pointer (some ⟨q2, 0, none⟩)] 54)).drewN d).heap[w7.heap.size]? = some (.cells #[.pointer (some ⟨q1, 0, none⟩), .pointer (some ⟨q2, 0, none⟩)] 54 (0, 0)) := HPR.out
  rw [← hw8] at hh1 hh2 hb8 hd1 hd2 hpr
  obtain ⟨pr, hpre⟩ : ∃ pr, w7.heap.size = pr := ⟨_, rfl⟩
  rw [hpre] at hpr ⊢
  have s7p : w6.heap.size ≤ pr := by omega
  have C8 := bsame_any w8 _ p2 _ _ _ _ _ hh2
  rw [beq_self_eq_true] at C8
  have HH1b := Lib.hid hh1
  have HH2b := Lib.hid hh2
  have HB8 := Lib.hid hb8
  have HD1b := Lib.hid hd1
  have HD2b := Lib.hid hd2
  have HPRb := Lib.hid hpr
  clear hh1 hh2 hb8 hd1 hd2 hpr hw8 hpre HH1 HH2 HB7 HD1 HD2 HPR
  go_wp2_with fail
  refine C8.mono ?_
  rintro e w9 ⟨d, rfl, hw9⟩
  clear C8
  have hh1 := HH1b.out.drewN d
  have hh2 := HH2b.out.drewN d
  have hb9 := below_drewN HB8.out d
  have hd1 := HD1b.out.drewN d
  have hd2 := HD2b.out.drewN d
  have hpr : (w8.drewN d).heap[pr]? = some (.cells #[.pointer (some ⟨q1, 0, none⟩), .pointer (some ⟨q2, 0, none⟩)] 54 (0, 0)) := HPRb.out
  rw [← hw9] at hh1 hh2 hb9 hd1 hd2 hpr
  have C9 := spoil_any w9 _ p1 _ _ _ _ _ hh1 (by simp) (by simp) (by omega)
  have HH1 := Lib.hid hh1
  have HH2 := Lib.hid hh2
  have HB9 := Lib.hid hb9
  have HD1 := Lib.hid hd1
  have HD2 := Lib.hid hd2
  have HPR := Lib.hid hpr
  clear hh1 hh2 hb9 hd1 hd2 hpr hw9 HH1b HH2b HB8 HD1b HD2b HPRb
  go_wp2_with fail
  refine C9.mono ?_
  rintro e w10 ⟨rfl, hh1, e10⟩
  clear C9
  have hh2 := HH2.out.over e10 (fun k hk => (HLT1.out k hk).2)
  have hd1 := HD1.out.eff e10 (fun k hk hf => by have := (HD1.out.ge k hk).1; have := (HLT1.out k hf).2; omega)
  have hd2 := HD2.out.eff e10 (fun k hk hf => by have := (HD2.out.ge k hk).1; have := (HLT1.out k hf).2; omega)
  have hpr := (e10.block _ (lt_of_heap HPR.out) (fun hf => by have := (HLT1.out pr hf).2; omega)).trans HPR.out
  have hb10 := HB9.out.trans (e10.below (B := w.heap.size) (fun k hk => Nat.le_trans s01 (HLT1.out k hk).1) HB9.out.size)
  have C10 := spoil_any w10 _ p2 _ _ _ _ _ hh2 (by simp) (by simp) (by omega)
  have HH1b := Lib.hid hh1
  have HB10 := Lib.hid hb10
  have HD1b := Lib.hid hd1
  have HD2b := Lib.hid hd2
  have HPRb := Lib.hid hpr
  clear hh1 hh2 hb10 hd1 hd2 hpr e10 HH1 HH2 HB9 HD1 HD2 HPR
  go_wp2_with fail
  refine C10.mono ?_
  rintro e w11 ⟨rfl, hh2, e11⟩
  clear C10
  have hh1 := HH1b.out.under2 e11 (H := w2.heap.size) (fun k hk => (HLT2.out k hk).1) HP1.out (fun k hk => (HLT1.out k hk).2)
  have hd1 := HD1b.out.eff e11 (fun k hk hf => by have := (HD1b.out.ge k hk).1; have := (HLT2.out k hf).2; omega)
  have hd2 := HD2b.out.eff e11 (fun k hk hf => by have := (HD2b.out.ge k hk).1; have := (HLT2.out k hf).2; omega)
  have hpr := (e11.block _ (lt_of_heap HPRb.out) (fun hf => by have := (HLT2.out pr hf).2; omega)).trans HPRb.out
  have hb11 := HB10.out.trans (e11.below (B := w.heap.size) (fun k hk => by have := (HLT2.out k hk).1; have := (HLT1.out g1 (.inl rfl)); omega) HB10.out.size)
  obtain ⟨F1, hF1⟩ : ∃ F1, spoilB (bs ++ hms 80) bs.length = F1 := ⟨_, rfl⟩
  have hFl : (bs ++ hms 80).length = F1.length := by rw [← hF1, spoilB_length]
  have hFn : bs.length ≤ F1.length := by rw [← hFl]; simp
  rw [hF1, hFl] at hh1
  have C11 := give_any w11 _ p1 g1 c1 vg1 F1 _ bs.length hh1 hFn
  have hr1 := (own_to (own_take hh1.f (n := bs.length) (by rw [bytesV_length]; exact hFn)) (bytesV_take F1 bs.length).symm).rd
  have HH1 := Lib.hid hh1
  have HB11 := Lib.hid hb11
  have HD1 := Lib.hid hd1
  have HD2 := Lib.hid hd2
  have HPR := Lib.hid hpr
  have HR1 := Lib.hid hr1
  clear hh1 hh2 hb11 hd1 hd2 hpr e11 hF1 hFl hr1 HH1b HB10 HD1b HD2b HPRb HLT1 HLT2 HP1
  go_wp2_with fail
  refine C11.mono ?_
  rintro e w12 ⟨d, rfl, hw12⟩
  clear C11
  have hr1 : Rd (w11.drewN d) (.slice (some ⟨g1, 0, none⟩) bs.length c1) (bytesV (F1.take bs.length)) := HR1.out
  have hbb : Below w11.heap.size w11 (w11.drewN d) := below_drewN (Below.refl _ _) d
  rw [← hw12] at hr1 hbb
  have C12 := nr_any w12 (some ⟨g1, 0, none⟩) _ c1 (F1.take bs.length) hr1 (by rw [List.length_take]; omega)
  have HBB := Lib.hid hbb
  clear hbb hr1 hw12
  go_wp2_with fail
  refine C12.mono ?_
  rintro e w13 ⟨qa, va, rfl, hda, hb13⟩
  clear C12
  have hbb13 := HBB.out.trans (hb13.mono HBB.out.size)
  have C13 := rraw_ok w13 _ qa va (F1.take bs.length) 0 hda bs.length (by rw [List.length_take]; omega)
  have hqa : w11.heap.size ≤ qa := Nat.le_trans HBB.out.size hda.hp
  have HBB13 := Lib.hid hbb13
  clear hbb13 hda hb13 HBB
  go_wp2_with fail
  refine C13.mono ?_
  rintro e w14 ⟨v3, rfl, ho3, hda, e14⟩
  clear C13
  have hba := HBB13.out.trans (e14.below (B := w11.heap.size) (fun k hk => by subst hk; exact hqa) HBB13.out.size)
  have hb14 := HB11.out.trans (hba.mono HB11.out.size)
  have hh1 := HH1.out.underR hba
  have hd1 := HD1.out.underR hba
  have hd2 := HD2.out.underR hba
  have hpr := (hba.block _ (lt_of_heap HPR.out)).trans HPR.out
  have hr1 := HR1.out.below hba (Nat.le_refl _)
  have hta : ((F1.take bs.length).drop 0).take bs.length = F1.take bs.length := by simp [List.take_take]
  rw [hta] at ho3
  obtain ⟨a3, c3, rfl⟩ := own_slice ho3
  have r1 := fun d : Nat => run_str (P := Tryd.prog) Tryd.underlying37 Tryd.underlying5 Tryd.underlying9 (ho3.drewN d).rd
  have r2 := fun d : Nat => run_str (P := Tryd.prog) Tryd.underlying37 Tryd.underlying5 Tryd.underlying9 (hr1.below (below_drewN (Below.refl _ w14) d) (Nat.le_refl _))
  have CG : ∀ d : Nat, Calls Tryd.prog 24 #[.pointer (some ⟨p1, 0, none⟩)] (w14.drewN d) fun e w'' => e = .returned (.slice (some ⟨g1, 0, none⟩) bs.length c1) ∧ ∃ q, w'' = w14.drewN q := fun d => (give_any (w14.drewN d) _ p1 g1 c1 vg1 F1 _ bs.length (hh1.drewN d) hFn).mono (by
    rintro e w' ⟨q, rfl, rfl⟩
    exact ⟨rfl, d + q, World.drewN_drewN _ _ _⟩)
  have CL : ∀ d : Nat, Calls Tryd.prog 28 #[.pointer (some ⟨qa, 0, none⟩)] (w14.drewN d) fun e w'' => e = .returned (.int .i64 0) ∧ ∃ q, w'' = w14.drewN q := fun d => (rleft_any _ _ _ _ _ _ (hda.drewN d)).mono (by
    rintro e w' ⟨rfl, q, rfl⟩
    exact ⟨by congr 2; rw [List.length_take]; omega, d + q, World.drewN_drewN _ _ _⟩)
  have HB14 := Lib.hid hb14
  have HD1b := Lib.hid hd1
  have HD2b := Lib.hid hd2
  have HPRb := Lib.hid hpr
  have HCG := Lib.hid CG
  have HCL := Lib.hid CL
  clear hh1 hb14 hd1 hd2 hpr CG CL hba hta hr1 ho3 e14 hda HH1 HB11 HD1 HD2 HPR HR1 HBB13
  go_wp2
  go_quiet ((first | (go_at_call 24; with_reducible exact HCG.out _) | (go_at_call 28; with_reducible exact HCL.out _)))
  go_upto_region 17 with fail
  have hb14 := below_drewN HB14.out nq
  have hd1 := HD1b.out.drewN nq
  have hd2 := HD2b.out.drewN nq
  have hpr : (w14.drewN nq).heap[pr]? = some (.cells #[.pointer (some ⟨q1, 0, none⟩), .pointer (some ⟨q2, 0, none⟩)] 54 (0, 0)) := HPRb.out
  clear r1 r2 HCG HCL HB14 HD1b HD2b HPRb
  generalize w14.drewN nq = w15 at hb14 hd1 hd2 hpr ⊢
  have hz : w.heap.size ≤ w15.heap.size := hb14.size
  have hbx := hb14.alloc hz (.cells #[] 5)
  have hba : Below w15.heap.size w15 (w15.alloc (.cells #[] 5)) := (Below.refl _ _).alloc (Nat.le_refl _) _
  have ho0 := own_empty w15 w.heap.size 5 hz
  have hrb := HRB.out.below hbx (Nat.le_refl _)
  have hn1 : ([] : List Value).length + (bytesV bs).length < 1000000000001 := by rw [bytesV_length]; simp; omega
  have hz1 : w.heap.size ≤ (w15.alloc (.cells #[] 5)).heap.size := hbx.size
  have HD1 := Lib.hid hd1
  have HD2 := Lib.hid hd2
  have HPR := Lib.hid hpr
  have HBX := Lib.hid hbx
  have HBA := Lib.hid hba
  clear hb14 hd1 hd2 hpr hbx hba
  go_wp2_with (at_builtin; with_reducible refine apN elBytes ho0 hrb (bytesV_one _) hn1 hz1 rfl _ _ rfl rfl rfl ?_)
  intro x1 w16 k1 k2 k3 k4
  have hbg := ((Eff.refl (fun k => (Value.slice (some ⟨w15.heap.size, 0, none⟩) 0 0).ownBlock = some k) (w15.alloc (.cells #[] 5))).grown k4 (fun i hi _ => hi)).below (B := w15.heap.size) (fun i hi => by simp [Value.ownBlock] at hi; omega) (by simp)
  have hba := HBA.out.trans hbg
  have hbx := HBX.out.trans (hbg.mono hz)
  have hd1 := HD1.out.underR hba
  have hd2 := HD2.out.underR hba
  have hpr := (hba.block _ (lt_of_heap HPR.out)).trans HPR.out
  obtain ⟨ax1, nx1, cx1, rfl⟩ := own_sl k1
  have hx1 : Own w16 w.heap.size 5 (.slice ax1 nx1 cx1) (bytesV bs) := k1
  have hz : w.heap.size ≤ w16.heap.size := hbx.size
  have hbx2 := hbx.alloc hz (.cells #[] 5)
  have hba : Below w16.heap.size w16 (w16.alloc (.cells #[] 5)) := (Below.refl _ _).alloc (Nat.le_refl _) _
  have ho0 := own_empty w16 w.heap.size 5 hz
  have hrb2 := HRC.out.below hbx2 (Nat.le_refl _)
  have hn2 : ([] : List Value).length + (bytesV cs).length < 1000000000001 := by rw [bytesV_length]; simp; omega
  have hz2 : w.heap.size ≤ (w16.alloc (.cells #[] 5)).heap.size := hbx2.size
  have HD1b := Lib.hid hd1
  have HD2b := Lib.hid hd2
  have HPRb := Lib.hid hpr
  have HBXb := Lib.hid hbx2
  have HBAb := Lib.hid hba
  have HX1 := Lib.hid hx1
  clear k1 k2 k3 k4 hbg hba hbx hd1 hd2 hpr hx1 hbx2 hn1 hz1 HD1 HD2 HPR HBX HBA hrb
  go_wp2_with (at_builtin; with_reducible refine apN elBytes ho0 hrb2 (bytesV_one _) hn2 hz2 rfl _ _ rfl rfl rfl ?_)
  intro x2 w17 k1 k2 k3 k4
  have hbg := ((Eff.refl (fun k => (Value.slice (some ⟨w16.heap.size, 0, none⟩) 0 0).ownBlock = some k) (w16.alloc (.cells #[] 5))).grown k4 (fun i hi _ => hi)).below (B := w16.heap.size) (fun i hi => by simp [Value.ownBlock] at hi; omega) (by simp)
  have hba := HBAb.out.trans hbg
  have hbx := HBXb.out.trans (hbg.mono hz)
  have hd1 := HD1b.out.underR hba
  have hd2 := HD2b.out.underR hba
  have hpr := (hba.block _ (lt_of_heap HPRb.out)).trans HPRb.out
  have hx1 := HX1.out.below hba (Nat.le_refl _)
  obtain ⟨ax2, nx2, cx2, rfl⟩ := own_sl k1
  have hx2 : Own w17 w.heap.size 5 (.slice ax2 nx2 cx2) (bytesV cs) := k1
  have HRS := Lib.hid (reads_state w17 w.heap.size pr q1 q2 v1 v2 bs cs (.slice ax1 nx1 cx1) (.slice ax2 nx2 cx2) hbx.size (hd1.lowR (by omega)) (hd2.lowR (by omega)) HQ.out hpr hx1 hx2)
  have HBW := Lib.hid (((hbx.alloc hbx.size (.cells #[.slice ax1 nx1 cx1, .slice ax2 nx2 cx2] 37)).alloc (Nat.le_trans hbx.size (by simp)) (.cells #[.int .i64 0, .int .i64 0] 3)).alloc (Nat.le_trans hbx.size (by simp; omega)) (.cells #[.slice none 0 0, .slice none 0 0, .slice none 0 0] 43))
  have hz17 := hbx.size
  clear k1 k2 k3 k4 hbg hba hbx hd1 hd2 hpr hx1 hx2 hn2 hz2 HD1b HD2b HPRb HBXb HBAb HX1 hrb2 ho0
  go_wp2
  have hrs := HRS.out
  have hbw := HBW.out
  clear HRS HBW
  generalize (((w17.alloc (.cells #[.slice ax1 nx1 cx1, .slice ax2 nx2 cx2] 37)).alloc (.cells #[.int .i64 0, .int .i64 0] 3)).alloc (.cells #[.slice none 0 0, .slice none 0 0, .slice none 0 0] 43)) = W0 at hrs hbw ⊢
  obtain ⟨bs2, hbs2⟩ : ∃ bs2 : Bool → List UInt8, (fun b => bif b then cs else bs) = bs2 := ⟨_, rfl⟩
  have hbsl : ∀ b, (bs2 b).length ≤ 1048576 := fun b => by subst hbs2; cases b <;> assumption
  obtain ⟨p, hp⟩ : ∃ p : Bool → Nat, (fun b => bif b then q2 else q1) = p := ⟨_, rfl⟩
  obtain ⟨v, hv⟩ : ∃ v : Bool → Value, (fun b => bif b then v2 else v1) = v := ⟨_, rfl⟩
  obtain ⟨x, hx⟩ : ∃ x : Bool → Value, (fun b => bif b then .slice ax2 nx2 cx2 else .slice ax1 nx1 cx1) = x := ⟨_, rfl⟩
  rw [hbs2, hp, hv, hx] at hrs
  obtain ⟨H0, hH0⟩ : ∃ H0, w17.heap.size + 1 + 1 + 1 = H0 := ⟨_, rfl⟩
  have hBH : w.heap.size ≤ H0 := by omega
  rw [hH0] at hrs
  obtain ⟨pd, hpd⟩ : ∃ pd, w17.heap.size = pd := ⟨_, rfl⟩
  rw [hpd] at hrs ⊢
  obtain ⟨pa, hpa⟩ : ∃ pa, pd + 1 = pa := ⟨_, rfl⟩
  rw [hpa] at hrs ⊢
  obtain ⟨pk, hpk⟩ : ∃ pk, pa + 1 = pk := ⟨_, rfl⟩
  rw [hpk] at hrs ⊢
  have HRS := Lib.hid hrs
  have HBW := Lib.hid hbw
  have HBSL := Lib.hid hbsl
  clear hrs hbw hbsl hbs2 hp hv hx hH0 hpd hpa hpk hz17 hz HQ s01 s12 s23 s34 s45 s56 s67 s7p hFn hqa
  go_loopw [99] (fun s99 wr => ∃ (i : Nat) (k : Bool → Nat) (vb vi : Value) (lb li : List Value), s99 = .int .i64 i ∧ i ≤ ops.length ∧ RS wr w.heap.size H0 pr pk pd pa p v x bs2 k k vb vi lb li ∧ lb.length ≤ i ∧ li.length ≤ i ∧ Below w.heap.size w wr) (fun s _ => ops.length - (intOf s).toNat)
  case atStart => exact ⟨0, _, _, _, [], [], rfl, Nat.zero_le _, HRS.out, Nat.le_refl _, Nat.le_refl _, HBW.out⟩
  case round =>
    clear HRS HBW
    obtain ⟨i, k, vb, vi, lb, li, rfl, hi, hrs, hlb, hli, hb⟩ := hrel
    have hsz := hb.size
    by_cases hlt : i < ops.length
    · obtain ⟨_, hoo⟩ := HOPS.out.below hb (Nat.le_refl _)
      obtain ⟨bb, oo, rfl, hcells⟩ := hoo (by omega)
      have hopi := HON.out ops[i] (List.getElem_mem hlt)
      have hc := hcells i hlt
      obtain ⟨op, hopq⟩ : ∃ op, ops[i] = op := ⟨_, rfl⟩
      rw [hopq] at hc hopi
      obtain ⟨kd, sec, n, u, ii, ba, bn, bc, os, la, ln, lc⟩ := op
      have d0 := hc 0 _ rfl
      have d1 := hc 1 _ rfl
      have d2 := hc 2 _ rfl
      have d3 := hc 3 _ rfl
      have d4 := hc 4 _ rfl
      have d5 := hc 5 _ rfl
      have d6 := hc 6 _ rfl
      have d7 := hc 7 _ rfl
      rw [Nat.add_zero] at d0
      simp only at d0 d1 d2 d3 d4 d5 d6 d7 hopi
      obtain ⟨hn0, hn1⟩ := hopi
      obtain ⟨o1, ho1⟩ : ∃ o1, o1 = Obj.cells #[.int .i64 kd, .bool sec, .int .i64 n, .int .u64 u, .int .i64 ii, .slice ba bn bc, .string os, .slice la ln lc] 46 := ⟨_, rfl⟩
      have hrs1 := hrs.under ((Below.refl _ wr).alloc (Nat.le_refl _) o1)
      have hbb : Below w.heap.size w (wr.alloc o1) := hb.alloc hb.size _
      have hbx : Cells8 (wr.alloc o1) wr.heap.size (.int .i64 kd) (.bool sec) (.int .i64 n) (.int .u64 u) (.int .i64 ii) (.slice ba bn bc) (.string os) (.slice la ln lc) := by
        subst ho1; exact Cells8.of (heap_alloc_new wr _)
      have hob : (wr.alloc o1).heap[wr.heap.size]? = some (.cells #[.int .i64 kd, .bool sec, .int .i64 n, .int .u64 u, .int .i64 ii, .slice ba bn bc, .string os, .slice la ln lc] 46 (0, 0)) := by subst ho1; exact heap_alloc_new wr _
      obtain ⟨b0, b1, b2, b3, b4, b5, b6, b7⟩ := hbx
      have HRS1 := Lib.hid hrs1
      have HBB := Lib.hid hbb
      have HOB := Lib.hid hob
      clear hrs hrs1 hbb hc hcells hoo hopq hb hob
      rw [ho1] at HRS1 HBB HOB b0 b1 b2 b3 b4 b5 b6 b7
      clear ho1
      go_upto_if 104 with fail
      go_cut [20] (fun s20 wx => wr.alloc (.cells #[.int .i64 kd, .bool sec, .int .i64 n, .int .u64 u, .int .i64 ii, .slice ba bn bc, .string os, .slice la ln lc] 46) = wx ∧ s20 = .int .i64 ((sec.toNat : Nat) : Int))
      case first =>
        cases sec
        · go_wp2
          all_goals go_meet
          exact ⟨rfl, rfl⟩
        · go_wp2
          all_goals go_meet
          exact ⟨rfl, rfl⟩
      case rest =>
        obtain ⟨rfl, rfl⟩ := hcut
        obtain ⟨O, hO⟩ : ∃ O, wr.heap.size = O := ⟨_, rfl⟩
        rw [hO] at HOB b0 b1 b2 b3 b4 b5 b6 b7 ⊢
        generalize wr.alloc (.cells #[.int .i64 kd, .bool sec, .int .i64 n, .int .u64 u, .int .i64 ii, .slice ba bn bc, .string os, .slice la ln lc] 46) = W at HRS1 HBB HOB b0 b1 b2 b3 b4 b5 b6 b7 ⊢
        have hz2 : w.heap.size ≤ W.heap.size := HBB.out.size
        obtain ⟨kk, hk⟩ : ∃ kk : Nat, sec.toNat = kk := ⟨_, rfl⟩
        have hk2 : kk < 2 := by cases sec <;> simp at hk <;> omega
        have hkI : (kk : Int) < 2 := by omega
        have m1 : W.cell? ⟨pr, kk, none⟩ = some (.pointer (some ⟨p sec, 0, none⟩)) := by rw [blk_cell HRS1.out.rr kk, ← hk]; cases sec <;> rfl
        have m2 : W.cell? ⟨pd, kk, none⟩ = some (x sec) := by rw [blk_cell HRS1.out.dd kk, ← hk]; cases sec <;> rfl
        have m3 : W.cell? ⟨pa, kk, none⟩ = some (.int .i64 (k sec)) := by rw [blk_cell HRS1.out.aa kk, ← hk]; cases sec <;> rfl
        have hda := HRS1.out.da sec
        have hrd := HRS1.out.rd sec
        have hle := hrd.le
        have hln := HBSL.out sec
        obtain ⟨ax, cx, hxs⟩ := own_slice hda
        rw [bytesV_length] at hxs
        rw [hxs] at m2 hda
        rw [hk]
        obtain ⟨K, hK⟩ : ∃ K, k sec = K := ⟨_, rfl⟩
        obtain ⟨P, hP⟩ : ∃ P, p sec = P := ⟨_, rfl⟩
        obtain ⟨B1, hB1⟩ : ∃ B1, bs2 sec = B1 := ⟨_, rfl⟩
        obtain ⟨v1, hv1⟩ : ∃ v1, v sec = v1 := ⟨_, rfl⟩
        rw [hK, hB1, hv1, hP] at hrd
        rw [hK, hB1] at hle
        rw [hB1] at hln m2 hda
        rw [hP] at m1
        rw [hK] at m3
        have HK := Lib.hid hK
        have HP := Lib.hid hP
        have HB1 := Lib.hid hB1
        have HV1 := Lib.hid hv1
        have HXS := Lib.hid hxs
        have HKS := Lib.hid hk
        have HRD := Lib.hid hrd
        have HDA := Lib.hid hda
        have HO := Lib.hid hO
        clear hK hP hB1 hv1 hxs hk hrd hda hO d0 d1 d2 d3 d4 d5 d6 d7
        by_cases h11 : kd = 11
        · have t1 : (kd == 11) = true := by simpa using h11
          have C2 : ∀ d : Nat, Calls Tryd.prog 29 #[.pointer (some ⟨P, 0, none⟩)] (W.drewN d) fun e w'' => e = .returned (.int .i64 K) ∧ ∃ q, w'' = W.drewN q := fun d => quiet_leftN (rat_any _ _ _ _ _ _ (HRD.out.drewN d))
          have HC2 := Lib.hid C2
          clear C2 h11
          go_wp2
          go_quiet ((go_at_call 29; with_reducible exact HC2.out _))
          go_wp2
          go_roundw
          case rel => exact ⟨i + 1, k, vb, vi, lb, li, by go_num, by omega, HRS1.out.drewN _, by omega, by omega, below_drewN HBB.out _⟩
          case measure => simp [intOf]; omega
        by_cases h12 : kd = 12
        · have t1 : (kd == 11) = false := by simpa using h11
          have t2 : (kd == 12) = true := by simpa using h12
          obtain ⟨mm, hm⟩ : ∃ mm, B1.length = K + mm := ⟨B1.length - K, by omega⟩
          have qm : (B1.length : Int) - (K : Int) = (mm : Int) := by omega
          have C3 : ∀ d : Nat, Calls Tryd.prog 28 #[.pointer (some ⟨P, 0, none⟩)] (W.drewN d) fun e w'' => e = .returned (.int .i64 mm) ∧ ∃ q, w'' = W.drewN q := fun d => (rleft_any _ _ _ _ _ _ (HRD.out.drewN d)).mono (by
            rintro e w' ⟨rfl, q, rfl⟩
            exact ⟨by rw [qm], d + q, World.drewN_drewN _ _ _⟩)
          have HC3 := Lib.hid C3
          have HM := Lib.hid hm
          clear C3 h11 h12 hm
          go_wp2
          go_quiet ((go_at_call 28; with_reducible exact HC3.out _))
          go_wp2
          go_roundw
          case rel => exact ⟨i + 1, k, vb, vi, lb, li, by go_num, by omega, HRS1.out.drewN _, by omega, by omega, below_drewN HBB.out _⟩
          case measure => simp [intOf]; omega
        by_cases h13 : kd = 13
        · have t1 : (kd == 11) = false := by simpa using h11
          have t2 : (kd == 12) = false := by simpa using h12
          have t3 : (kd == 13) = true := by simpa using h13
          have hSW := HS.out.below HBB.out
          by_cases hkl : K < B1.length
          · have C2 := rdone_err W _ _ _ _ _ HRD.out hkl EA hSW.c5
            unfold errV at C2
            clear h11 h12 h13 hSW
            go_wp2_with fail
            refine C2.mono ?_
            rintro e W2 ⟨rfl, d, hW2⟩
            clear C2
            have hrs2 := HRS1.out.drewN d
            have hbb2 := below_drewN HBB.out d
            have n2 : (W.drewN d).cell? ⟨pd, kk, none⟩ = some (.slice ax B1.length cx) := m2
            have n3 : (W.drewN d).cell? ⟨pa, kk, none⟩ = some (.int .i64 K) := m3
            rw [← hW2] at hrs2 hbb2 n2 n3
            have C3 : ∀ q : Nat, Calls Tryd.prog 31 #[errV EA 5] (W2.drewN q) fun e w'' => e = .returned (.int .i64 5) ∧ ∃ q', w'' = W2.drewN q' := fun q => (num_Tail (W2.drewN q) EA (HS.out.below (below_drewN hbb2 q))).mono (by
              rintro e w' ⟨rfl, rfl⟩
              exact ⟨rfl, q, rfl⟩)
            unfold errV at C3
            have HC3 := Lib.hid C3
            have HRS2 := Lib.hid hrs2
            have HBB2 := Lib.hid hbb2
            clear C3 hrs2 hbb2 hW2 m1 m2 m3 b0 b1 b2 b3 b4 b5 b6 b7
            go_wp2
            go_quiet ((go_at_call 31; with_reducible exact HC3.out _))
            go_wp2
            go_roundw
            case rel => exact ⟨i + 1, k, vb, vi, lb, li, by go_num, by omega, HRS2.out.drewN _, by omega, by omega, below_drewN HBB2.out _⟩
            case measure => simp [intOf]; omega
          · have C2 := rdone_any W _ _ _ _ _ HRD.out (by omega)
            clear h11 h12 h13 hSW
            go_wp2_with fail
            refine C2.mono ?_
            rintro e W2 ⟨rfl, d, hW2⟩
            clear C2
            have hrs2 := HRS1.out.drewN d
            have hbb2 := below_drewN HBB.out d
            have n2 : (W.drewN d).cell? ⟨pd, kk, none⟩ = some (.slice ax B1.length cx) := m2
            have n3 : (W.drewN d).cell? ⟨pa, kk, none⟩ = some (.int .i64 K) := m3
            rw [← hW2] at hrs2 hbb2 n2 n3
            have C3 : ∀ q : Nat, Calls Tryd.prog 31 #[.nilIface] (W2.drewN q) fun e w'' => e = .returned (.int .i64 0) ∧ ∃ q', w'' = W2.drewN q' := fun q => (num_nil (W2.drewN q)).mono (by
              rintro e w' ⟨rfl, rfl⟩
              exact ⟨rfl, q, rfl⟩)
            have HC3 := Lib.hid C3
            have HRS2 := Lib.hid hrs2
            have HBB2 := Lib.hid hbb2
            clear C3 hrs2 hbb2 hW2 m1 m2 m3 b0 b1 b2 b3 b4 b5 b6 b7
            go_wp2
            go_quiet ((go_at_call 31; with_reducible exact HC3.out _))
            go_wp2
            go_roundw
            case rel => exact ⟨i + 1, k, vb, vi, lb, li, by go_num, by omega, HRS2.out.drewN _, by omega, by omega, below_drewN HBB2.out _⟩
            case measure => simp [intOf]; omega
        have t1 : (kd == 11) = false := by simpa using h11
        have t2 : (kd == 12) = false := by simpa using h12
        have t3 : (kd == 13) = false := by simpa using h13
        clear h11 h12 h13
        -- ARM
        have CA := fun A B W' h => asked_pq (v := v) (x := x) HS.out HG.out HBB.out HRS1.out sec kd n u ii hn0 hn1 (HBSL.out sec) (by omega) (by omega) O kk ba bn bc os la ln lc ax B1.length cx K _ HOB.out A B W' h
        have CT := fun kN vl vb' vi' lb' li' A B W' h => told_pq (w := w) (H0 := H0) (pr := pr) (pk := pk) (pd := pd) (pa := pa) (p := p) (v := v) (x := x) (bs := bs2) (k := k) (kN := kN) (vl := vl) (vb' := vb') (vi' := vi') (lb' := lb') (li' := li') hz2 sec kd n u ii hn0 hn1 (HBSL.out sec) (by rw [HK.out, HB1.out]; exact hle) O kk ba bn bc os la ln lc ax cx K (by rw [HXS.out]) A B W' h
        simp only [HP.out, HB1.out, HK.out] at CA CT
        obtain ⟨r, hr⟩ : ∃ r, looks kd n (B1.drop K) K = r := ⟨_, rfl⟩
        simp only [hr] at CA CT
        have hq0 : PQ (fun X => Below W.heap.size W X) (SRd O pd pa kk kd sec n u ii ba bn bc os la ln lc ax B1.length cx K) W.heap.size none none W.drew := ⟨below_drewN (Below.refl _ _) 1, ⟨b0, b1, b2, b3, b4, b5, b6, b7, m2, m3⟩, fun _ h => (by cases h), fun _ h => (by cases h), fun _ _ h => (by cases h), Nat.le_refl _⟩
        have HR := Lib.hid hr
        have hOlt : O < W.heap.size := lt_of_heap HOB.out
        have hDlt : pd < W.heap.size := lt_of_heap HRS1.out.dd
        have hAlt : pa < W.heap.size := lt_of_heap HRS1.out.aa
        have CA := Lib.hid CA
        have CT := Lib.hid CT
        have HQ := Lib.hid hq0
        clear hr hq0
        go_upto_region 28 with fail
        clear b0 b1 b2 b3 b4 b5 b6 b7 m1 m2 m3
        go_cut [22, 23] (fun s22 s23 wx => ∃ (a b : Nat) (aa : Option Addr) (na ca : Nat) (at1 : Option Addr) (nt ct : Nat) (vb2 vi2 : Value) (lb2 li2 : List Value), s22 = .pointer (some ⟨a, 0, none⟩) ∧ s23 = .pointer (some ⟨b, 0, none⟩) ∧ wx.heap[a]? = some (.cells #[.int .u64 r.u, .string (strOf r.s), .slice aa na ca, .int .i64 r.next, .int .i64 r.e] 66 (0, 0)) ∧ wx.heap[b]? = some (.cells #[.int .u64 r.u, .string (strOf r.s), .slice at1 nt ct, .int .i64 r.next, .int .i64 r.e] 66 (0, 0)) ∧ lb2.length ≤ lb.length + 1 ∧ li2.length ≤ li.length + 1 ∧
          St2 w w.heap.size H0 pr pk pd pa p v x bs2 (updR k sec r.next) k (.slice aa na ca) vb2 vi2 lb2 li2 r.l (.slice at1 nt ct) wx)
        case first =>
          refine wp_region_noPanic ?_
          refine wp_region_held_drew (S := SRd O pd pa kk kd sec n u ii ba bn bc os la ln lc ax B1.length cx K) (by kernel_rfl) HQ.out.sc (fun hHeld => ?_)
          obtain ⟨X0, hX0⟩ : ∃ X0, X0 = W.drew := ⟨_, rfl⟩
          rw [← hX0] at HQ hHeld ⊢
          clear hX0
          refine wpAnyH_take (i := 0) (v := ?_) rfl (by kernel_rfl) (by kernel_rfl) (by kernel_rfl) (fun _ _ _ h => h) (Or.inl ⟨by kernel_rfl, ?_⟩) hHeld ?_
          rotate_left
          · intro w hSw; obtain ⟨c0, c1, c2, c3, c4, c5, c6, c7, c8, c9⟩ := hSw; go_simp; try with_reducible rfl
          refine wpAnyH_take (i := 1) (v := ?_) rfl (by kernel_rfl) (by kernel_rfl) (by kernel_rfl) (fun _ _ _ h => h) (Or.inl ⟨by kernel_rfl, ?_⟩) hHeld ?_
          rotate_left
          · intro w hSw; obtain ⟨c0, c1, c2, c3, c4, c5, c6, c7, c8, c9⟩ := hSw; go_simp; try with_reducible rfl
          refine wpAnyH_take (i := 2) (v := ?_) rfl (by kernel_rfl) (by kernel_rfl) (by kernel_rfl) (fun _ _ _ h => h) (Or.inl ⟨by kernel_rfl, ?_⟩) hHeld ?_
          rotate_left
          · intro w hSw; obtain ⟨c0, c1, c2, c3, c4, c5, c6, c7, c8, c9⟩ := hSw; go_simp; try with_reducible rfl
          refine wpAnyH_take (i := 4) (v := ?_) rfl (by kernel_rfl) (by kernel_rfl) (by kernel_rfl) (fun _ _ _ h => h) (Or.inl ⟨by kernel_rfl, ?_⟩) hHeld ?_
          rotate_left
          · intro w hSw; obtain ⟨c0, c1, c2, c3, c4, c5, c6, c7, c8, c9⟩ := hSw; go_simp; try with_reducible rfl
          refine wpAnyH_take (i := 5) (v := ?_) rfl (by kernel_rfl) (by kernel_rfl) (by kernel_rfl) (fun _ _ _ h => h) (Or.inl ⟨by kernel_rfl, ?_⟩) hHeld ?_
          rotate_left
          · intro w hSw; obtain ⟨c0, c1, c2, c3, c4, c5, c6, c7, c8, c9⟩ := hSw; go_simp; try with_reducible rfl
          refine wpAnyH_take (i := 6) (v := ?_) rfl (by kernel_rfl) (by kernel_rfl) (by kernel_rfl) (fun _ _ _ h => h) (Or.inl ⟨by kernel_rfl, ?_⟩) hHeld ?_
          rotate_left
          · intro w hSw; obtain ⟨c0, c1, c2, c3, c4, c5, c6, c7, c8, c9⟩ := hSw; go_simp; try with_reducible rfl
          refine wpAnyH_take (i := 7) (v := ?_) rfl (by kernel_rfl) (by kernel_rfl) (by kernel_rfl) (fun _ _ _ h => h) (Or.inl ⟨by kernel_rfl, ?_⟩) hHeld ?_
          rotate_left
          · intro w hSw; obtain ⟨c0, c1, c2, c3, c4, c5, c6, c7, c8, c9⟩ := hSw; go_simp; try with_reducible rfl
          refine wpAnyH_take (i := 8) (v := ?_) rfl (by kernel_rfl) (by kernel_rfl) (by kernel_rfl) (fun _ _ _ h => h) (Or.inl ⟨by kernel_rfl, ?_⟩) hHeld ?_
          rotate_left
          · intro w hSw; obtain ⟨c0, c1, c2, c3, c4, c5, c6, c7, c8, c9⟩ := hSw; go_simp; try with_reducible rfl
          refine wpAnyH_take (i := 9) (v := ?_) rfl (by kernel_rfl) (by kernel_rfl) (by kernel_rfl) (fun _ _ _ h => h) (Or.inl ⟨by kernel_rfl, ?_⟩) hHeld ?_
          rotate_left
          · intro w hSw; obtain ⟨c0, c1, c2, c3, c4, c5, c6, c7, c8, c9⟩ := hSw; go_simp; try with_reducible rfl
          refine wpAnyH_take (i := 10) (v := ?_) rfl (by kernel_rfl) (by kernel_rfl) (by kernel_rfl) (fun _ _ _ h => h) (Or.inl ⟨by kernel_rfl, ?_⟩) hHeld ?_
          rotate_left
          · intro w hSw; obtain ⟨c0, c1, c2, c3, c4, c5, c6, c7, c8, c9⟩ := hSw; go_simp; try with_reducible rfl
          refine wpAnyH_take (i := 11) (v := ?_) rfl (by kernel_rfl) (by kernel_rfl) (by kernel_rfl) (fun _ _ _ h => h) (Or.inl ⟨by kernel_rfl, ?_⟩) hHeld ?_
          rotate_left
          · intro w hSw; obtain ⟨c0, c1, c2, c3, c4, c5, c6, c7, c8, c9⟩ := hSw; go_simp; try with_reducible rfl
          refine wpAnyH_take (i := 12) (v := ?_) rfl (by kernel_rfl) (by kernel_rfl) (by kernel_rfl) (fun _ _ _ h => h) (Or.inl ⟨by kernel_rfl, ?_⟩) hHeld ?_
          rotate_left
          · intro w hSw; obtain ⟨c0, c1, c2, c3, c4, c5, c6, c7, c8, c9⟩ := hSw; go_simp; try with_reducible rfl
          clear hHeld
          refine wpAnyH_ready (rs := [3, 14, 15]) (by kernel_rfl) (by simp) ?_
          refine AllReadyH.cons rfl (fun KK hKK => ?_) ?_
          · rw [if_pos (by kernel_rfl)]
            go_simp
            go_wp2_with (go_at_call 32; (with_reducible refine (CA.out _ _ _ HQ.out).mono ?_); rintro e wa ⟨aa, na, ca, vb2, vi2, lb2, li2, rfl, hl1, hl2, hq⟩)
            refine hKK.out _ _ hq.sc (fun hHeld => ?_)
            clear hKK KK HQ hHeld
            have HQ := Lib.hid hq
            clear hq
            refine wpAnyH_ready (rs := [13, 14, 15]) (by kernel_rfl) (by simp) ?_
            refine AllReadyH.cons rfl (fun KK hKK => ?_) ?_
            · rw [if_pos (by kernel_rfl)]
              go_simp
              go_wp2_with (go_at_call 33; (with_reducible refine (CT.out _ _ _ _ _ _ _ _ _ HQ.out).mono ?_); rintro e wt ⟨at1, nt, ct, rfl, hq⟩)
              refine hKK.out _ _ hq.sc (fun hHeld => ?_)
              clear hKK KK HQ hHeld
              have HQ := Lib.hid hq
              clear hq
              refine wpAnyH_ready (rs := [14, 15]) (by kernel_rfl) (by simp) ?_
              refine AllReadyH.cons rfl (fun KK hKK => ?_) ?_
              · rw [if_pos (by kernel_rfl)]
                go_simp
                have hq := HQ.out.allocA (fun w w2 e hz h => h.under e (Nat.le_trans hz2 hz)) (fun w w2 e hz h => h.eff (Eff.of_below e (fun _ => False)) (fun f => f) (fun f => f) (fun f => f))
                refine hKK.out _ _ hq.sc (fun hHeld => ?_)
                clear hKK KK HQ hHeld
                generalize wt.alloc (.cells #[.int .u64 0, .string ⟨#[]⟩, .slice none 0 0, .int .i64 0, .int .i64 0] 66) = XA at hq ⊢
                generalize wt.heap.size = a at hq ⊢
                have HQ := Lib.hid hq
                clear hq
                refine wpAnyH_ready (rs := [15]) (by kernel_rfl) (by simp) ?_
                refine AllReadyH.cons rfl (fun KK hKK => ?_) ?_
                · rw [if_pos (by kernel_rfl)]
                  go_simp
                  have hq := HQ.out.allocB (fun w w2 e hz h => h.under e (Nat.le_trans hz2 hz)) (fun w w2 e hz h => h.eff (Eff.of_below e (fun _ => False)) (fun f => f) (fun f => f) (fun f => f))
                  refine hKK.out _ _ hq.sc (fun hHeld => ?_)
                  clear hKK KK HQ hHeld
                  generalize XA.alloc (.cells #[.int .u64 0, .string ⟨#[]⟩, .slice none 0 0, .int .i64 0, .int .i64 0] 66) = XB at hq ⊢
                  generalize XA.heap.size = b at hq ⊢
                  have HQ := Lib.hid hq
                  clear hq
                  refine wpAnyH_ready (rs := [16]) (by kernel_rfl) (by simp) ?_
                  refine AllReadyH.cons rfl (fun KK hKK => ?_) ?_
                  · have hA := (HQ.out.la a rfl).2
                    have z0 := blk_cell hA 0
                    have y0 := blk_frozen hA 0
                    have z1 := blk_cell hA 1
                    have y1 := blk_frozen hA 1
                    have z2 := blk_cell hA 2
                    have y2 := blk_frozen hA 2
                    have z3 := blk_cell hA 3
                    have y3 := blk_frozen hA 3
                    have z4 := blk_cell hA 4
                    have y4 := blk_frozen hA 4
                    obtain ⟨kY, eY⟩ := look_laid hA (.int .u64 r.u) (.string (strOf r.s)) (.slice aa na ca) (.int .i64 r.next) (.int .i64 r.e)
                    have hla := (HQ.out.la a rfl).1
                    have hlb := (HQ.out.lb b rfl).1
                    have hne := HQ.out.ne a b rfl rfl
                    have hst := HQ.out.st.put hA eY (by omega) (Nat.le_trans hz2 HQ.out.sz)
                    have hsc := HQ.out.sc.eff eY (by omega) (by omega) (by omega)
                    have hbk := (eY.block b (lt_of_heap (HQ.out.lb b rfl).2) (by omega)).trans (HQ.out.lb b rfl).2
                    have hsz := Nat.le_trans HQ.out.sz eY.size
                    clear eY hA HQ
                    rw [if_pos (by kernel_rfl)]
                    go_simp
                    clear z0 z1 z2 z3 z4 y0 y1 y2 y3 y4
                    refine hKK.out _ _ hsc (fun hHeld => ?_)
                    clear hKK KK hHeld
                    generalize (((((XB.setCell ⟨a, 0, none⟩ (.int .u64 r.u)).setCell ⟨a, 1, none⟩ (.string (strOf r.s))).setCell ⟨a, 2, none⟩ (.slice aa na ca)).setCell ⟨a, 3, none⟩ (.int .i64 r.next)).setCell ⟨a, 4, none⟩ (.int .i64 r.e)) = Y1 at kY hst hsc hbk hsz ⊢
                    have HST := Lib.hid hst
                    have HSC := Lib.hid hsc
                    have HBK := Lib.hid hbk
                    have HKY := Lib.hid kY
                    clear hst hsc hbk kY
                    refine wpAnyH_ready (rs := [17]) (by kernel_rfl) (by simp) ?_
                    refine AllReadyH.cons rfl (fun KK hKK => ?_) ?_
                    · have hA := HBK.out
                      have z0 := blk_cell hA 0
                      have y0 := blk_frozen hA 0
                      have z1 := blk_cell hA 1
                      have y1 := blk_frozen hA 1
                      have z2 := blk_cell hA 2
                      have y2 := blk_frozen hA 2
                      have z3 := blk_cell hA 3
                      have y3 := blk_frozen hA 3
                      have z4 := blk_cell hA 4
                      have y4 := blk_frozen hA 4
                      obtain ⟨kY, eY⟩ := look_laid hA (.int .u64 r.u) (.string (strOf r.s)) (.slice at1 nt ct) (.int .i64 r.next) (.int .i64 r.e)
                      have hst := HST.out.put hA eY (by omega) (Nat.le_trans hz2 hsz)
                      have hsc := HSC.out.eff eY (by omega) (by omega) (by omega)
                      have hak := (eY.block a (lt_of_heap HKY.out) (by omega)).trans HKY.out
                      clear eY hA HST HSC HKY HBK
                      rw [if_pos (by kernel_rfl)]
                      go_simp
                      clear z0 z1 z2 z3 z4 y0 y1 y2 y3 y4
                      refine hKK.out _ _ hsc (fun hHeld => ?_)
                      clear hKK KK hHeld hsc
                      generalize (((((Y1.setCell ⟨b, 0, none⟩ (.int .u64 r.u)).setCell ⟨b, 1, none⟩ (.string (strOf r.s))).setCell ⟨b, 2, none⟩ (.slice at1 nt ct)).setCell ⟨b, 3, none⟩ (.int .i64 r.next)).setCell ⟨b, 4, none⟩ (.int .i64 r.e)) = Y2 at kY hst hak ⊢
                      have HST := Lib.hid hst
                      have HAK := Lib.hid hak
                      have HKY := Lib.hid kY
                      clear hst hak kY
                      refine wpAnyH_done (by kernel_rfl) ?_ _
                      refine NoPanic.normal ?_
                      go_wp2_with fail
                      go_meet
                      exact ⟨a, b, aa, na, ca, at1, nt, ct, vb2, vi2, lb2, li2, rfl, rfl, HAK.out, HKY.out, hl1, hl2, HST.out⟩
                    exact AllReadyH.nil
                  exact AllReadyH.nil
                exact AllReadyH.nil
              refine AllReadyH.cons rfl (fun KK hKK => ?_) ?_
              · rw [if_pos (by kernel_rfl)]
                go_simp
                have hq := HQ.out.allocB (fun w w2 e hz h => h.under e (Nat.le_trans hz2 hz)) (fun w w2 e hz h => h.eff (Eff.of_below e (fun _ => False)) (fun f => f) (fun f => f) (fun f => f))
                refine hKK.out _ _ hq.sc (fun hHeld => ?_)
                clear hKK KK HQ hHeld
                generalize wt.alloc (.cells #[.int .u64 0, .string ⟨#[]⟩, .slice none 0 0, .int .i64 0, .int .i64 0] 66) = XB at hq ⊢
                generalize wt.heap.size = b at hq ⊢
                have HQ := Lib.hid hq
                clear hq
                refine wpAnyH_ready (rs := [14]) (by kernel_rfl) (by simp) ?_
                refine AllReadyH.cons rfl (fun KK hKK => ?_) ?_
                · rw [if_pos (by kernel_rfl)]
                  go_simp
                  have hq := HQ.out.allocA (fun w w2 e hz h => h.under e (Nat.le_trans hz2 hz)) (fun w w2 e hz h => h.eff (Eff.of_below e (fun _ => False)) (fun f => f) (fun f => f) (fun f => f))
                  refine hKK.out _ _ hq.sc (fun hHeld => ?_)
                  clear hKK KK HQ hHeld
                  generalize XB.alloc (.cells #[.int .u64 0, .string ⟨#[]⟩, .slice none 0 0, .int .i64 0, .int .i64 0] 66) = XA at hq ⊢
                  generalize XB.heap.size = a at hq ⊢
                  have HQ := Lib.hid hq
                  clear hq
                  refine wpAnyH_ready (rs := [16]) (by kernel_rfl) (by simp) ?_
                  refine AllReadyH.cons rfl (fun KK hKK => ?_) ?_
                  · have hA := (HQ.out.la a rfl).2
                    have z0 := blk_cell hA 0
                    have y0 := blk_frozen hA 0
                    have z1 := blk_cell hA 1
                    have y1 := blk_frozen hA 1
                    have z2 := blk_cell hA 2
                    have y2 := blk_frozen hA 2
                    have z3 := blk_cell hA 3
                    have y3 := blk_frozen hA 3
                    have z4 := blk_cell hA 4
                    have y4 := blk_frozen hA 4
                    obtain ⟨kY, eY⟩ := look_laid hA (.int .u64 r.u) (.string (strOf r.s)) (.slice aa na ca) (.int .i64 r.next) (.int .i64 r.e)
                    have hla := (HQ.out.la a rfl).1
                    have hlb := (HQ.out.lb b rfl).1
                    have hne := HQ.out.ne a b rfl rfl
                    have hst := HQ.out.st.put hA eY (by omega) (Nat.le_trans hz2 HQ.out.sz)
                    have hsc := HQ.out.sc.eff eY (by omega) (by omega) (by omega)
                    have hbk := (eY.block b (lt_of_heap (HQ.out.lb b rfl).2) (by omega)).trans (HQ.out.lb b rfl).2
                    have hsz := Nat.le_trans HQ.out.sz eY.size
                    clear eY hA HQ
                    rw [if_pos (by kernel_rfl)]
                    go_simp
                    clear z0 z1 z2 z3 z4 y0 y1 y2 y3 y4
                    refine hKK.out _ _ hsc (fun hHeld => ?_)
                    clear hKK KK hHeld
                    generalize (((((XA.setCell ⟨a, 0, none⟩ (.int .u64 r.u)).setCell ⟨a, 1, none⟩ (.string (strOf r.s))).setCell ⟨a, 2, none⟩ (.slice aa na ca)).setCell ⟨a, 3, none⟩ (.int .i64 r.next)).setCell ⟨a, 4, none⟩ (.int .i64 r.e)) = Y1 at kY hst hsc hbk hsz ⊢
                    have HST := Lib.hid hst
                    have HSC := Lib.hid hsc
                    have HBK := Lib.hid hbk
                    have HKY := Lib.hid kY
                    clear hst hsc hbk kY
                    refine wpAnyH_ready (rs := [17]) (by kernel_rfl) (by simp) ?_
                    refine AllReadyH.cons rfl (fun KK hKK => ?_) ?_
                    · have hA := HBK.out
                      have z0 := blk_cell hA 0
                      have y0 := blk_frozen hA 0
                      have z1 := blk_cell hA 1
                      have y1 := blk_frozen hA 1
                      have z2 := blk_cell hA 2
                      have y2 := blk_frozen hA 2
                      have z3 := blk_cell hA 3
                      have y3 := blk_frozen hA 3
                      have z4 := blk_cell hA 4
                      have y4 := blk_frozen hA 4
                      obtain ⟨kY, eY⟩ := look_laid hA (.int .u64 r.u) (.string (strOf r.s)) (.slice at1 nt ct) (.int .i64 r.next) (.int .i64 r.e)
                      have hst := HST.out.put hA eY (by omega) (Nat.le_trans hz2 hsz)
                      have hsc := HSC.out.eff eY (by omega) (by omega) (by omega)
                      have hak := (eY.block a (lt_of_heap HKY.out) (by omega)).trans HKY.out
                      clear eY hA HST HSC HKY HBK
                      rw [if_pos (by kernel_rfl)]
                      go_simp
                      clear z0 z1 z2 z3 z4 y0 y1 y2 y3 y4
                      refine hKK.out _ _ hsc (fun hHeld => ?_)
                      clear hKK KK hHeld hsc
                      generalize (((((Y1.setCell ⟨b, 0, none⟩ (.int .u64 r.u)).setCell ⟨b, 1, none⟩ (.string (strOf r.s))).setCell ⟨b, 2, none⟩ (.slice at1 nt ct)).setCell ⟨b, 3, none⟩ (.int .i64 r.next)).setCell ⟨b, 4, none⟩ (.int .i64 r.e)) = Y2 at kY hst hak ⊢
                      have HST := Lib.hid hst
                      have HAK := Lib.hid hak
                      have HKY := Lib.hid kY
                      clear hst hak kY
                      refine wpAnyH_done (by kernel_rfl) ?_ _
                      refine NoPanic.normal ?_
                      go_wp2_with fail
                      go_meet
                      exact ⟨a, b, aa, na, ca, at1, nt, ct, vb2, vi2, lb2, li2, rfl, rfl, HAK.out, HKY.out, hl1, hl2, HST.out⟩
                    exact AllReadyH.nil
                  exact AllReadyH.nil
                exact AllReadyH.nil
              exact AllReadyH.nil
            refine AllReadyH.cons rfl (fun KK hKK => ?_) ?_
            · rw [if_pos (by kernel_rfl)]
              go_simp
              have hq := HQ.out.allocA (fun w w2 e hz h => h.under e (Nat.le_trans hz2 hz)) (fun w w2 e hz h => h.eff (Eff.of_below e (fun _ => False)) (fun f => f) (fun f => f) (fun f => f))
              refine hKK.out _ _ hq.sc (fun hHeld => ?_)
              clear hKK KK HQ hHeld
              generalize wa.alloc (.cells #[.int .u64 0, .string ⟨#[]⟩, .slice none 0 0, .int .i64 0, .int .i64 0] 66) = XA at hq ⊢
              generalize wa.heap.size = a at hq ⊢
              have HQ := Lib.hid hq
              clear hq
              refine wpAnyH_ready (rs := [13, 15]) (by kernel_rfl) (by simp) ?_
              refine AllReadyH.cons rfl (fun KK hKK => ?_) ?_
              · rw [if_pos (by kernel_rfl)]
                go_simp
                go_wp2_with (go_at_call 33; (with_reducible refine (CT.out _ _ _ _ _ _ _ _ _ HQ.out).mono ?_); rintro e wt ⟨at1, nt, ct, rfl, hq⟩)
                refine hKK.out _ _ hq.sc (fun hHeld => ?_)
                clear hKK KK HQ hHeld
                have HQ := Lib.hid hq
                clear hq
                refine wpAnyH_ready (rs := [15]) (by kernel_rfl) (by simp) ?_
                refine AllReadyH.cons rfl (fun KK hKK => ?_) ?_
                · rw [if_pos (by kernel_rfl)]
                  go_simp
                  have hq := HQ.out.allocB (fun w w2 e hz h => h.under e (Nat.le_trans hz2 hz)) (fun w w2 e hz h => h.eff (Eff.of_below e (fun _ => False)) (fun f => f) (fun f => f) (fun f => f))
                  refine hKK.out _ _ hq.sc (fun hHeld => ?_)
                  clear hKK KK HQ hHeld
                  generalize wt.alloc (.cells #[.int .u64 0, .string ⟨#[]⟩, .slice none 0 0, .int .i64 0, .int .i64 0] 66) = XB at hq ⊢
                  generalize wt.heap.size = b at hq ⊢
                  have HQ := Lib.hid hq
                  clear hq
                  refine wpAnyH_ready (rs := [16]) (by kernel_rfl) (by simp) ?_
                  refine AllReadyH.cons rfl (fun KK hKK => ?_) ?_
                  · have hA := (HQ.out.la a rfl).2
                    have z0 := blk_cell hA 0
                    have y0 := blk_frozen hA 0
                    have z1 := blk_cell hA 1
                    have y1 := blk_frozen hA 1
                    have z2 := blk_cell hA 2
                    have y2 := blk_frozen hA 2
                    have z3 := blk_cell hA 3
                    have y3 := blk_frozen hA 3
                    have z4 := blk_cell hA 4
                    have y4 := blk_frozen hA 4
                    obtain ⟨kY, eY⟩ := look_laid hA (.int .u64 r.u) (.string (strOf r.s)) (.slice aa na ca) (.int .i64 r.next) (.int .i64 r.e)
                    have hla := (HQ.out.la a rfl).1
                    have hlb := (HQ.out.lb b rfl).1
                    have hne := HQ.out.ne a b rfl rfl
                    have hst := HQ.out.st.put hA eY (by omega) (Nat.le_trans hz2 HQ.out.sz)
                    have hsc := HQ.out.sc.eff eY (by omega) (by omega) (by omega)
                    have hbk := (eY.block b (lt_of_heap (HQ.out.lb b rfl).2) (by omega)).trans (HQ.out.lb b rfl).2
                    have hsz := Nat.le_trans HQ.out.sz eY.size
                    clear eY hA HQ
                    rw [if_pos (by kernel_rfl)]
                    go_simp
                    clear z0 z1 z2 z3 z4 y0 y1 y2 y3 y4
                    refine hKK.out _ _ hsc (fun hHeld => ?_)
                    clear hKK KK hHeld
                    generalize (((((XB.setCell ⟨a, 0, none⟩ (.int .u64 r.u)).setCell ⟨a, 1, none⟩ (.string (strOf r.s))).setCell ⟨a, 2, none⟩ (.slice aa na ca)).setCell ⟨a, 3, none⟩ (.int .i64 r.next)).setCell ⟨a, 4, none⟩ (.int .i64 r.e)) = Y1 at kY hst hsc hbk hsz ⊢
                    have HST := Lib.hid hst
                    have HSC := Lib.hid hsc
                    have HBK := Lib.hid hbk
                    have HKY := Lib.hid kY
                    clear hst hsc hbk kY
                    refine wpAnyH_ready (rs := [17]) (by kernel_rfl) (by simp) ?_
                    refine AllReadyH.cons rfl (fun KK hKK => ?_) ?_
                    · have hA := HBK.out
                      have z0 := blk_cell hA 0
                      have y0 := blk_frozen hA 0
                      have z1 := blk_cell hA 1
                      have y1 := blk_frozen hA 1
                      have z2 := blk_cell hA 2
                      have y2 := blk_frozen hA 2
                      have z3 := blk_cell hA 3
                      have y3 := blk_frozen hA 3
                      have z4 := blk_cell hA 4
                      have y4 := blk_frozen hA 4
                      obtain ⟨kY, eY⟩ := look_laid hA (.int .u64 r.u) (.string (strOf r.s)) (.slice at1 nt ct) (.int .i64 r.next) (.int .i64 r.e)
                      have hst := HST.out.put hA eY (by omega) (Nat.le_trans hz2 hsz)
                      have hsc := HSC.out.eff eY (by omega) (by omega) (by omega)
                      have hak := (eY.block a (lt_of_heap HKY.out) (by omega)).trans HKY.out
                      clear eY hA HST HSC HKY HBK
                      rw [if_pos (by kernel_rfl)]
                      go_simp
                      clear z0 z1 z2 z3 z4 y0 y1 y2 y3 y4
                      refine hKK.out _ _ hsc (fun hHeld => ?_)
                      clear hKK KK hHeld hsc
                      generalize (((((Y1.setCell ⟨b, 0, none⟩ (.int .u64 r.u)).setCell ⟨b, 1, none⟩ (.string (strOf r.s))).setCell ⟨b, 2, none⟩ (.slice at1 nt ct)).setCell ⟨b, 3, none⟩ (.int .i64 r.next)).setCell ⟨b, 4, none⟩ (.int .i64 r.e)) = Y2 at kY hst hak ⊢
                      have HST := Lib.hid hst
                      have HAK := Lib.hid hak
                      have HKY := Lib.hid kY
                      clear hst hak kY
                      refine wpAnyH_done (by kernel_rfl) ?_ _
                      refine NoPanic.normal ?_
                      go_wp2_with fail
                      go_meet
                      exact ⟨a, b, aa, na, ca, at1, nt, ct, vb2, vi2, lb2, li2, rfl, rfl, HAK.out, HKY.out, hl1, hl2, HST.out⟩
                    exact AllReadyH.nil
                  exact AllReadyH.nil
                exact AllReadyH.nil
              refine AllReadyH.cons rfl (fun KK hKK => ?_) ?_
              · rw [if_pos (by kernel_rfl)]
                go_simp
                have hq := HQ.out.allocB (fun w w2 e hz h => h.under e (Nat.le_trans hz2 hz)) (fun w w2 e hz h => h.eff (Eff.of_below e (fun _ => False)) (fun f => f) (fun f => f) (fun f => f))
                refine hKK.out _ _ hq.sc (fun hHeld => ?_)
                clear hKK KK HQ hHeld
                generalize XA.alloc (.cells #[.int .u64 0, .string ⟨#[]⟩, .slice none 0 0, .int .i64 0, .int .i64 0] 66) = XB at hq ⊢
                generalize XA.heap.size = b at hq ⊢
                have HQ := Lib.hid hq
                clear hq
                refine wpAnyH_ready (rs := [13]) (by kernel_rfl) (by simp) ?_
                refine AllReadyH.cons rfl (fun KK hKK => ?_) ?_
                · rw [if_pos (by kernel_rfl)]
                  go_simp
                  go_wp2_with (go_at_call 33; (with_reducible refine (CT.out _ _ _ _ _ _ _ _ _ HQ.out).mono ?_); rintro e wt ⟨at1, nt, ct, rfl, hq⟩)
                  refine hKK.out _ _ hq.sc (fun hHeld => ?_)
                  clear hKK KK HQ hHeld
                  have HQ := Lib.hid hq
                  clear hq
                  refine wpAnyH_ready (rs := [16]) (by kernel_rfl) (by simp) ?_
                  refine AllReadyH.cons rfl (fun KK hKK => ?_) ?_
                  · have hA := (HQ.out.la a rfl).2
                    have z0 := blk_cell hA 0
                    have y0 := blk_frozen hA 0
                    have z1 := blk_cell hA 1
                    have y1 := blk_frozen hA 1
                    have z2 := blk_cell hA 2
                    have y2 := blk_frozen hA 2
                    have z3 := blk_cell hA 3
                    have y3 := blk_frozen hA 3
                    have z4 := blk_cell hA 4
                    have y4 := blk_frozen hA 4
                    obtain ⟨kY, eY⟩ := look_laid hA (.int .u64 r.u) (.string (strOf r.s)) (.slice aa na ca) (.int .i64 r.next) (.int .i64 r.e)
                    have hla := (HQ.out.la a rfl).1
                    have hlb := (HQ.out.lb b rfl).1
                    have hne := HQ.out.ne a b rfl rfl
                    have hst := HQ.out.st.put hA eY (by omega) (Nat.le_trans hz2 HQ.out.sz)
                    have hsc := HQ.out.sc.eff eY (by omega) (by omega) (by omega)
                    have hbk := (eY.block b (lt_of_heap (HQ.out.lb b rfl).2) (by omega)).trans (HQ.out.lb b rfl).2
                    have hsz := Nat.le_trans HQ.out.sz eY.size
                    clear eY hA HQ
                    rw [if_pos (by kernel_rfl)]
                    go_simp
                    clear z0 z1 z2 z3 z4 y0 y1 y2 y3 y4
                    refine hKK.out _ _ hsc (fun hHeld => ?_)
                    clear hKK KK hHeld
                    generalize (((((wt.setCell ⟨a, 0, none⟩ (.int .u64 r.u)).setCell ⟨a, 1, none⟩ (.string (strOf r.s))).setCell ⟨a, 2, none⟩ (.slice aa na ca)).setCell ⟨a, 3, none⟩ (.int .i64 r.next)).setCell ⟨a, 4, none⟩ (.int .i64 r.e)) = Y1 at kY hst hsc hbk hsz ⊢
                    have HST := Lib.hid hst
                    have HSC := Lib.hid hsc
                    have HBK := Lib.hid hbk
                    have HKY := Lib.hid kY
                    clear hst hsc hbk kY
                    refine wpAnyH_ready (rs := [17]) (by kernel_rfl) (by simp) ?_
                    refine AllReadyH.cons rfl (fun KK hKK => ?_) ?_
                    · have hA := HBK.out
                      have z0 := blk_cell hA 0
                      have y0 := blk_frozen hA 0
                      have z1 := blk_cell hA 1
                      have y1 := blk_frozen hA 1
                      have z2 := blk_cell hA 2
                      have y2 := blk_frozen hA 2
                      have z3 := blk_cell hA 3
                      have y3 := blk_frozen hA 3
                      have z4 := blk_cell hA 4
                      have y4 := blk_frozen hA 4
                      obtain ⟨kY, eY⟩ := look_laid hA (.int .u64 r.u) (.string (strOf r.s)) (.slice at1 nt ct) (.int .i64 r.next) (.int .i64 r.e)
                      have hst := HST.out.put hA eY (by omega) (Nat.le_trans hz2 hsz)
                      have hsc := HSC.out.eff eY (by omega) (by omega) (by omega)
                      have hak := (eY.block a (lt_of_heap HKY.out) (by omega)).trans HKY.out
                      clear eY hA HST HSC HKY HBK
                      rw [if_pos (by kernel_rfl)]
                      go_simp
                      clear z0 z1 z2 z3 z4 y0 y1 y2 y3 y4
                      refine hKK.out _ _ hsc (fun hHeld => ?_)
                      clear hKK KK hHeld hsc
                      generalize (((((Y1.setCell ⟨b, 0, none⟩ (.int .u64 r.u)).setCell ⟨b, 1, none⟩ (.string (strOf r.s))).setCell ⟨b, 2, none⟩ (.slice at1 nt ct)).setCell ⟨b, 3, none⟩ (.int .i64 r.next)).setCell ⟨b, 4, none⟩ (.int .i64 r.e)) = Y2 at kY hst hak ⊢
                      have HST := Lib.hid hst
                      have HAK := Lib.hid hak
                      have HKY := Lib.hid kY
                      clear hst hak kY
                      refine wpAnyH_done (by kernel_rfl) ?_ _
                      refine NoPanic.normal ?_
                      go_wp2_with fail
                      go_meet
                      exact ⟨a, b, aa, na, ca, at1, nt, ct, vb2, vi2, lb2, li2, rfl, rfl, HAK.out, HKY.out, hl1, hl2, HST.out⟩
                    exact AllReadyH.nil
                  exact AllReadyH.nil
                exact AllReadyH.nil
              exact AllReadyH.nil
            refine AllReadyH.cons rfl (fun KK hKK => ?_) ?_
            · rw [if_pos (by kernel_rfl)]
              go_simp
              have hq := HQ.out.allocB (fun w w2 e hz h => h.under e (Nat.le_trans hz2 hz)) (fun w w2 e hz h => h.eff (Eff.of_below e (fun _ => False)) (fun f => f) (fun f => f) (fun f => f))
              refine hKK.out _ _ hq.sc (fun hHeld => ?_)
              clear hKK KK HQ hHeld
              generalize wa.alloc (.cells #[.int .u64 0, .string ⟨#[]⟩, .slice none 0 0, .int .i64 0, .int .i64 0] 66) = XB at hq ⊢
              generalize wa.heap.size = b at hq ⊢
              have HQ := Lib.hid hq
              clear hq
              refine wpAnyH_ready (rs := [13, 14]) (by kernel_rfl) (by simp) ?_
              refine AllReadyH.cons rfl (fun KK hKK => ?_) ?_
              · rw [if_pos (by kernel_rfl)]
                go_simp
                go_wp2_with (go_at_call 33; (with_reducible refine (CT.out _ _ _ _ _ _ _ _ _ HQ.out).mono ?_); rintro e wt ⟨at1, nt, ct, rfl, hq⟩)
                refine hKK.out _ _ hq.sc (fun hHeld => ?_)
                clear hKK KK HQ hHeld
                have HQ := Lib.hid hq
                clear hq
                refine wpAnyH_ready (rs := [14]) (by kernel_rfl) (by simp) ?_
                refine AllReadyH.cons rfl (fun KK hKK => ?_) ?_
                · rw [if_pos (by kernel_rfl)]
                  go_simp
                  have hq := HQ.out.allocA (fun w w2 e hz h => h.under e (Nat.le_trans hz2 hz)) (fun w w2 e hz h => h.eff (Eff.of_below e (fun _ => False)) (fun f => f) (fun f => f) (fun f => f))
                  refine hKK.out _ _ hq.sc (fun hHeld => ?_)
                  clear hKK KK HQ hHeld
                  generalize wt.alloc (.cells #[.int .u64 0, .string ⟨#[]⟩, .slice none 0 0, .int .i64 0, .int .i64 0] 66) = XA at hq ⊢
                  generalize wt.heap.size = a at hq ⊢
                  have HQ := Lib.hid hq
                  clear hq
                  refine wpAnyH_ready (rs := [16]) (by kernel_rfl) (by simp) ?_
                  refine AllReadyH.cons rfl (fun KK hKK => ?_) ?_
                  · have hA := (HQ.out.la a rfl).2
                    have z0 := blk_cell hA 0
                    have y0 := blk_frozen hA 0
                    have z1 := blk_cell hA 1
                    have y1 := blk_frozen hA 1
                    have z2 := blk_cell hA 2
                    have y2 := blk_frozen hA 2
                    have z3 := blk_cell hA 3
                    have y3 := blk_frozen hA 3
                    have z4 := blk_cell hA 4
                    have y4 := blk_frozen hA 4
                    obtain ⟨kY, eY⟩ := look_laid hA (.int .u64 r.u) (.string (strOf r.s)) (.slice aa na ca) (.int .i64 r.next) (.int .i64 r.e)
                    have hla := (HQ.out.la a rfl).1
                    have hlb := (HQ.out.lb b rfl).1
                    have hne := HQ.out.ne a b rfl rfl
                    have hst := HQ.out.st.put hA eY (by omega) (Nat.le_trans hz2 HQ.out.sz)
                    have hsc := HQ.out.sc.eff eY (by omega) (by omega) (by omega)
                    have hbk := (eY.block b (lt_of_heap (HQ.out.lb b rfl).2) (by omega)).trans (HQ.out.lb b rfl).2
                    have hsz := Nat.le_trans HQ.out.sz eY.size
                    clear eY hA HQ
                    rw [if_pos (by kernel_rfl)]
                    go_simp
                    clear z0 z1 z2 z3 z4 y0 y1 y2 y3 y4
                    refine hKK.out _ _ hsc (fun hHeld => ?_)
                    clear hKK KK hHeld
                    generalize (((((XA.setCell ⟨a, 0, none⟩ (.int .u64 r.u)).setCell ⟨a, 1, none⟩ (.string (strOf r.s))).setCell ⟨a, 2, none⟩ (.slice aa na ca)).setCell ⟨a, 3, none⟩ (.int .i64 r.next)).setCell ⟨a, 4, none⟩ (.int .i64 r.e)) = Y1 at kY hst hsc hbk hsz ⊢
                    have HST := Lib.hid hst
                    have HSC := Lib.hid hsc
                    have HBK := Lib.hid hbk
                    have HKY := Lib.hid kY
                    clear hst hsc hbk kY
                    refine wpAnyH_ready (rs := [17]) (by kernel_rfl) (by simp) ?_
                    refine AllReadyH.cons rfl (fun KK hKK => ?_) ?_
                    · have hA := HBK.out
                      have z0 := blk_cell hA 0
                      have y0 := blk_frozen hA 0
                      have z1 := blk_cell hA 1
                      have y1 := blk_frozen hA 1
                      have z2 := blk_cell hA 2
                      have y2 := blk_frozen hA 2
                      have z3 := blk_cell hA 3
                      have y3 := blk_frozen hA 3
                      have z4 := blk_cell hA 4
                      have y4 := blk_frozen hA 4
                      obtain ⟨kY, eY⟩ := look_laid hA (.int .u64 r.u) (.string (strOf r.s)) (.slice at1 nt ct) (.int .i64 r.next) (.int .i64 r.e)
                      have hst := HST.out.put hA eY (by omega) (Nat.le_trans hz2 hsz)
                      have hsc := HSC.out.eff eY (by omega) (by omega) (by omega)
                      have hak := (eY.block a (lt_of_heap HKY.out) (by omega)).trans HKY.out
                      clear eY hA HST HSC HKY HBK
                      rw [if_pos (by kernel_rfl)]
                      go_simp
                      clear z0 z1 z2 z3 z4 y0 y1 y2 y3 y4
                      refine hKK.out _ _ hsc (fun hHeld => ?_)
                      clear hKK KK hHeld hsc
                      generalize (((((Y1.setCell ⟨b, 0, none⟩ (.int .u64 r.u)).setCell ⟨b, 1, none⟩ (.string (strOf r.s))).setCell ⟨b, 2, none⟩ (.slice at1 nt ct)).setCell ⟨b, 3, none⟩ (.int .i64 r.next)).setCell ⟨b, 4, none⟩ (.int .i64 r.e)) = Y2 at kY hst hak ⊢
                      have HST := Lib.hid hst
                      have HAK := Lib.hid hak
                      have HKY := Lib.hid kY
                      clear hst hak kY
                      refine wpAnyH_done (by kernel_rfl) ?_ _
                      refine NoPanic.normal ?_
                      go_wp2_with fail
                      go_meet
                      exact ⟨a, b, aa, na, ca, at1, nt, ct, vb2, vi2, lb2, li2, rfl, rfl, HAK.out, HKY.out, hl1, hl2, HST.out⟩
                    exact AllReadyH.nil
                  exact AllReadyH.nil
                exact AllReadyH.nil
              refine AllReadyH.cons rfl (fun KK hKK => ?_) ?_
              · rw [if_pos (by kernel_rfl)]
                go_simp
                have hq := HQ.out.allocA (fun w w2 e hz h => h.under e (Nat.le_trans hz2 hz)) (fun w w2 e hz h => h.eff (Eff.of_below e (fun _ => False)) (fun f => f) (fun f => f) (fun f => f))
                refine hKK.out _ _ hq.sc (fun hHeld => ?_)
                clear hKK KK HQ hHeld
                generalize XB.alloc (.cells #[.int .u64 0, .string ⟨#[]⟩, .slice none 0 0, .int .i64 0, .int .i64 0] 66) = XA at hq ⊢
                generalize XB.heap.size = a at hq ⊢
                have HQ := Lib.hid hq
                clear hq
                refine wpAnyH_ready (rs := [13]) (by kernel_rfl) (by simp) ?_
                refine AllReadyH.cons rfl (fun KK hKK => ?_) ?_
                · rw [if_pos (by kernel_rfl)]
                  go_simp
                  go_wp2_with (go_at_call 33; (with_reducible refine (CT.out _ _ _ _ _ _ _ _ _ HQ.out).mono ?_); rintro e wt ⟨at1, nt, ct, rfl, hq⟩)
                  refine hKK.out _ _ hq.sc (fun hHeld => ?_)
                  clear hKK KK HQ hHeld
                  have HQ := Lib.hid hq
                  clear hq
                  refine wpAnyH_ready (rs := [16]) (by kernel_rfl) (by simp) ?_
                  refine AllReadyH.cons rfl (fun KK hKK => ?_) ?_
                  · have hA := (HQ.out.la a rfl).2
                    have z0 := blk_cell hA 0
                    have y0 := blk_frozen hA 0
                    have z1 := blk_cell hA 1
                    have y1 := blk_frozen hA 1
                    have z2 := blk_cell hA 2
                    have y2 := blk_frozen hA 2
                    have z3 := blk_cell hA 3
                    have y3 := blk_frozen hA 3
                    have z4 := blk_cell hA 4
                    have y4 := blk_frozen hA 4
                    obtain ⟨kY, eY⟩ := look_laid hA (.int .u64 r.u) (.string (strOf r.s)) (.slice aa na ca) (.int .i64 r.next) (.int .i64 r.e)
                    have hla := (HQ.out.la a rfl).1
                    have hlb := (HQ.out.lb b rfl).1
                    have hne := HQ.out.ne a b rfl rfl
                    have hst := HQ.out.st.put hA eY (by omega) (Nat.le_trans hz2 HQ.out.sz)
                    have hsc := HQ.out.sc.eff eY (by omega) (by omega) (by omega)
                    have hbk := (eY.block b (lt_of_heap (HQ.out.lb b rfl).2) (by omega)).trans (HQ.out.lb b rfl).2
                    have hsz := Nat.le_trans HQ.out.sz eY.size
                    clear eY hA HQ
                    rw [if_pos (by kernel_rfl)]
                    go_simp
                    clear z0 z1 z2 z3 z4 y0 y1 y2 y3 y4
                    refine hKK.out _ _ hsc (fun hHeld => ?_)
                    clear hKK KK hHeld
                    generalize (((((wt.setCell ⟨a, 0, none⟩ (.int .u64 r.u)).setCell ⟨a, 1, none⟩ (.string (strOf r.s))).setCell ⟨a, 2, none⟩ (.slice aa na ca)).setCell ⟨a, 3, none⟩ (.int .i64 r.next)).setCell ⟨a, 4, none⟩ (.int .i64 r.e)) = Y1 at kY hst hsc hbk hsz ⊢
                    have HST := Lib.hid hst
                    have HSC := Lib.hid hsc
                    have HBK := Lib.hid hbk
                    have HKY := Lib.hid kY
                    clear hst hsc hbk kY
                    refine wpAnyH_ready (rs := [17]) (by kernel_rfl) (by simp) ?_
                    refine AllReadyH.cons rfl (fun KK hKK => ?_) ?_
                    · have hA := HBK.out
                      have z0 := blk_cell hA 0
                      have y0 := blk_frozen hA 0
                      have z1 := blk_cell hA 1
                      have y1 := blk_frozen hA 1
                      have z2 := blk_cell hA 2
                      have y2 := blk_frozen hA 2
                      have z3 := blk_cell hA 3
                      have y3 := blk_frozen hA 3
                      have z4 := blk_cell hA 4
                      have y4 := blk_frozen hA 4
                      obtain ⟨kY, eY⟩ := look_laid hA (.int .u64 r.u) (.string (strOf r.s)) (.slice at1 nt ct) (.int .i64 r.next) (.int .i64 r.e)
                      have hst := HST.out.put hA eY (by omega) (Nat.le_trans hz2 hsz)
                      have hsc := HSC.out.eff eY (by omega) (by omega) (by omega)
                      have hak := (eY.block a (lt_of_heap HKY.out) (by omega)).trans HKY.out
                      clear eY hA HST HSC HKY HBK
                      rw [if_pos (by kernel_rfl)]
                      go_simp
                      clear z0 z1 z2 z3 z4 y0 y1 y2 y3 y4
                      refine hKK.out _ _ hsc (fun hHeld => ?_)
                      clear hKK KK hHeld hsc
                      generalize (((((Y1.setCell ⟨b, 0, none⟩ (.int .u64 r.u)).setCell ⟨b, 1, none⟩ (.string (strOf r.s))).setCell ⟨b, 2, none⟩ (.slice at1 nt ct)).setCell ⟨b, 3, none⟩ (.int .i64 r.next)).setCell ⟨b, 4, none⟩ (.int .i64 r.e)) = Y2 at kY hst hak ⊢
                      have HST := Lib.hid hst
                      have HAK := Lib.hid hak
                      have HKY := Lib.hid kY
                      clear hst hak kY
                      refine wpAnyH_done (by kernel_rfl) ?_ _
                      refine NoPanic.normal ?_
                      go_wp2_with fail
                      go_meet
                      exact ⟨a, b, aa, na, ca, at1, nt, ct, vb2, vi2, lb2, li2, rfl, rfl, HAK.out, HKY.out, hl1, hl2, HST.out⟩
                    exact AllReadyH.nil
                  exact AllReadyH.nil
                exact AllReadyH.nil
              exact AllReadyH.nil
            exact AllReadyH.nil
          refine AllReadyH.cons rfl (fun KK hKK => ?_) ?_
          · rw [if_pos (by kernel_rfl)]
            go_simp
            have hq := HQ.out.allocA (fun w w2 e hz h => h.trans (e.mono hz)) (fun w w2 e hz h => h.eff (Eff.of_below e (fun _ => False)) (fun f => f) (fun f => f) (fun f => f))
            refine hKK.out _ _ hq.sc (fun hHeld => ?_)
            clear hKK KK HQ hHeld
            generalize X0.alloc (.cells #[.int .u64 0, .string ⟨#[]⟩, .slice none 0 0, .int .i64 0, .int .i64 0] 66) = XA at hq ⊢
            generalize X0.heap.size = a at hq ⊢
            have HQ := Lib.hid hq
            clear hq
            refine wpAnyH_ready (rs := [3, 15]) (by kernel_rfl) (by simp) ?_
            refine AllReadyH.cons rfl (fun KK hKK => ?_) ?_
            · rw [if_pos (by kernel_rfl)]
              go_simp
              go_wp2_with (go_at_call 32; (with_reducible refine (CA.out _ _ _ HQ.out).mono ?_); rintro e wa ⟨aa, na, ca, vb2, vi2, lb2, li2, rfl, hl1, hl2, hq⟩)
              refine hKK.out _ _ hq.sc (fun hHeld => ?_)
              clear hKK KK HQ hHeld
              have HQ := Lib.hid hq
              clear hq
              refine wpAnyH_ready (rs := [13, 15]) (by kernel_rfl) (by simp) ?_
              refine AllReadyH.cons rfl (fun KK hKK => ?_) ?_
              · rw [if_pos (by kernel_rfl)]
                go_simp
                go_wp2_with (go_at_call 33; (with_reducible refine (CT.out _ _ _ _ _ _ _ _ _ HQ.out).mono ?_); rintro e wt ⟨at1, nt, ct, rfl, hq⟩)
                refine hKK.out _ _ hq.sc (fun hHeld => ?_)
                clear hKK KK HQ hHeld
                have HQ := Lib.hid hq
                clear hq
                refine wpAnyH_ready (rs := [15]) (by kernel_rfl) (by simp) ?_
                refine AllReadyH.cons rfl (fun KK hKK => ?_) ?_
                · rw [if_pos (by kernel_rfl)]
                  go_simp
                  have hq := HQ.out.allocB (fun w w2 e hz h => h.under e (Nat.le_trans hz2 hz)) (fun w w2 e hz h => h.eff (Eff.of_below e (fun _ => False)) (fun f => f) (fun f => f) (fun f => f))
                  refine hKK.out _ _ hq.sc (fun hHeld => ?_)
                  clear hKK KK HQ hHeld
                  generalize wt.alloc (.cells #[.int .u64 0, .string ⟨#[]⟩, .slice none 0 0, .int .i64 0, .int .i64 0] 66) = XB at hq ⊢
                  generalize wt.heap.size = b at hq ⊢
                  have HQ := Lib.hid hq
                  clear hq
                  refine wpAnyH_ready (rs := [16]) (by kernel_rfl) (by simp) ?_
                  refine AllReadyH.cons rfl (fun KK hKK => ?_) ?_
                  · have hA := (HQ.out.la a rfl).2
                    have z0 := blk_cell hA 0
                    have y0 := blk_frozen hA 0
                    have z1 := blk_cell hA 1
                    have y1 := blk_frozen hA 1
                    have z2 := blk_cell hA 2
                    have y2 := blk_frozen hA 2
                    have z3 := blk_cell hA 3
                    have y3 := blk_frozen hA 3
                    have z4 := blk_cell hA 4
                    have y4 := blk_frozen hA 4
                    obtain ⟨kY, eY⟩ := look_laid hA (.int .u64 r.u) (.string (strOf r.s)) (.slice aa na ca) (.int .i64 r.next) (.int .i64 r.e)
                    have hla := (HQ.out.la a rfl).1
                    have hlb := (HQ.out.lb b rfl).1
                    have hne := HQ.out.ne a b rfl rfl
                    have hst := HQ.out.st.put hA eY (by omega) (Nat.le_trans hz2 HQ.out.sz)
                    have hsc := HQ.out.sc.eff eY (by omega) (by omega) (by omega)
                    have hbk := (eY.block b (lt_of_heap (HQ.out.lb b rfl).2) (by omega)).trans (HQ.out.lb b rfl).2
                    have hsz := Nat.le_trans HQ.out.sz eY.size
                    clear eY hA HQ
                    rw [if_pos (by kernel_rfl)]
                    go_simp
                    clear z0 z1 z2 z3 z4 y0 y1 y2 y3 y4
                    refine hKK.out _ _ hsc (fun hHeld => ?_)
                    clear hKK KK hHeld
                    generalize (((((XB.setCell ⟨a, 0, none⟩ (.int .u64 r.u)).setCell ⟨a, 1, none⟩ (.string (strOf r.s))).setCell ⟨a, 2, none⟩ (.slice aa na ca)).setCell ⟨a, 3, none⟩ (.int .i64 r.next)).setCell ⟨a, 4, none⟩ (.int .i64 r.e)) = Y1 at kY hst hsc hbk hsz ⊢
                    have HST := Lib.hid hst
                    have HSC := Lib.hid hsc
                    have HBK := Lib.hid hbk
                    have HKY := Lib.hid kY
                    clear hst hsc hbk kY
                    refine wpAnyH_ready (rs := [17]) (by kernel_rfl) (by simp) ?_
                    refine AllReadyH.cons rfl (fun KK hKK => ?_) ?_
                    · have hA := HBK.out
                      have z0 := blk_cell hA 0
                      have y0 := blk_frozen hA 0
                      have z1 := blk_cell hA 1
                      have y1 := blk_frozen hA 1
                      have z2 := blk_cell hA 2
                      have y2 := blk_frozen hA 2
                      have z3 := blk_cell hA 3
                      have y3 := blk_frozen hA 3
                      have z4 := blk_cell hA 4
                      have y4 := blk_frozen hA 4
                      obtain ⟨kY, eY⟩ := look_laid hA (.int .u64 r.u) (.string (strOf r.s)) (.slice at1 nt ct) (.int .i64 r.next) (.int .i64 r.e)
                      have hst := HST.out.put hA eY (by omega) (Nat.le_trans hz2 hsz)
                      have hsc := HSC.out.eff eY (by omega) (by omega) (by omega)
                      have hak := (eY.block a (lt_of_heap HKY.out) (by omega)).trans HKY.out
                      clear eY hA HST HSC HKY HBK
                      rw [if_pos (by kernel_rfl)]
                      go_simp
                      clear z0 z1 z2 z3 z4 y0 y1 y2 y3 y4
                      refine hKK.out _ _ hsc (fun hHeld => ?_)
                      clear hKK KK hHeld hsc
                      generalize (((((Y1.setCell ⟨b, 0, none⟩ (.int .u64 r.u)).setCell ⟨b, 1, none⟩ (.string (strOf r.s))).setCell ⟨b, 2, none⟩ (.slice at1 nt ct)).setCell ⟨b, 3, none⟩ (.int .i64 r.next)).setCell ⟨b, 4, none⟩ (.int .i64 r.e)) = Y2 at kY hst hak ⊢
                      have HST := Lib.hid hst
                      have HAK := Lib.hid hak
                      have HKY := Lib.hid kY
                      clear hst hak kY
                      refine wpAnyH_done (by kernel_rfl) ?_ _
                      refine NoPanic.normal ?_
                      go_wp2_with fail
                      go_meet
                      exact ⟨a, b, aa, na, ca, at1, nt, ct, vb2, vi2, lb2, li2, rfl, rfl, HAK.out, HKY.out, hl1, hl2, HST.out⟩
                    exact AllReadyH.nil
                  exact AllReadyH.nil
                exact AllReadyH.nil
              refine AllReadyH.cons rfl (fun KK hKK => ?_) ?_
              · rw [if_pos (by kernel_rfl)]
                go_simp
                have hq := HQ.out.allocB (fun w w2 e hz h => h.under e (Nat.le_trans hz2 hz)) (fun w w2 e hz h => h.eff (Eff.of_below e (fun _ => False)) (fun f => f) (fun f => f) (fun f => f))
                refine hKK.out _ _ hq.sc (fun hHeld => ?_)
                clear hKK KK HQ hHeld
                generalize wa.alloc (.cells #[.int .u64 0, .string ⟨#[]⟩, .slice none 0 0, .int .i64 0, .int .i64 0] 66) = XB at hq ⊢
                generalize wa.heap.size = b at hq ⊢
                have HQ := Lib.hid hq
                clear hq
                refine wpAnyH_ready (rs := [13]) (by kernel_rfl) (by simp) ?_
                refine AllReadyH.cons rfl (fun KK hKK => ?_) ?_
                · rw [if_pos (by kernel_rfl)]
                  go_simp
                  go_wp2_with (go_at_call 33; (with_reducible refine (CT.out _ _ _ _ _ _ _ _ _ HQ.out).mono ?_); rintro e wt ⟨at1, nt, ct, rfl, hq⟩)
                  refine hKK.out _ _ hq.sc (fun hHeld => ?_)
                  clear hKK KK HQ hHeld
                  have HQ := Lib.hid hq
                  clear hq
                  refine wpAnyH_ready (rs := [16]) (by kernel_rfl) (by simp) ?_
                  refine AllReadyH.cons rfl (fun KK hKK => ?_) ?_
                  · have hA := (HQ.out.la a rfl).2
                    have z0 := blk_cell hA 0
                    have y0 := blk_frozen hA 0
                    have z1 := blk_cell hA 1
                    have y1 := blk_frozen hA 1
                    have z2 := blk_cell hA 2
                    have y2 := blk_frozen hA 2
                    have z3 := blk_cell hA 3
                    have y3 := blk_frozen hA 3
                    have z4 := blk_cell hA 4
                    have y4 := blk_frozen hA 4
                    obtain ⟨kY, eY⟩ := look_laid hA (.int .u64 r.u) (.string (strOf r.s)) (.slice aa na ca) (.int .i64 r.next) (.int .i64 r.e)
                    have hla := (HQ.out.la a rfl).1
                    have hlb := (HQ.out.lb b rfl).1
                    have hne := HQ.out.ne a b rfl rfl
                    have hst := HQ.out.st.put hA eY (by omega) (Nat.le_trans hz2 HQ.out.sz)
                    have hsc := HQ.out.sc.eff eY (by omega) (by omega) (by omega)
                    have hbk := (eY.block b (lt_of_heap (HQ.out.lb b rfl).2) (by omega)).trans (HQ.out.lb b rfl).2
                    have hsz := Nat.le_trans HQ.out.sz eY.size
                    clear eY hA HQ
                    rw [if_pos (by kernel_rfl)]
                    go_simp
                    clear z0 z1 z2 z3 z4 y0 y1 y2 y3 y4
                    refine hKK.out _ _ hsc (fun hHeld => ?_)
                    clear hKK KK hHeld
                    generalize (((((wt.setCell ⟨a, 0, none⟩ (.int .u64 r.u)).setCell ⟨a, 1, none⟩ (.string (strOf r.s))).setCell ⟨a, 2, none⟩ (.slice aa na ca)).setCell ⟨a, 3, none⟩ (.int .i64 r.next)).setCell ⟨a, 4, none⟩ (.int .i64 r.e)) = Y1 at kY hst hsc hbk hsz ⊢
                    have HST := Lib.hid hst
                    have HSC := Lib.hid hsc
                    have HBK := Lib.hid hbk
                    have HKY := Lib.hid kY
                    clear hst hsc hbk kY
                    refine wpAnyH_ready (rs := [17]) (by kernel_rfl) (by simp) ?_
                    refine AllReadyH.cons rfl (fun KK hKK => ?_) ?_
                    · have hA := HBK.out
                      have z0 := blk_cell hA 0
                      have y0 := blk_frozen hA 0
                      have z1 := blk_cell hA 1
                      have y1 := blk_frozen hA 1
                      have z2 := blk_cell hA 2
                      have y2 := blk_frozen hA 2
                      have z3 := blk_cell hA 3
                      have y3 := blk_frozen hA 3
                      have z4 := blk_cell hA 4
                      have y4 := blk_frozen hA 4
                      obtain ⟨kY, eY⟩ := look_laid hA (.int .u64 r.u) (.string (strOf r.s)) (.slice at1 nt ct) (.int .i64 r.next) (.int .i64 r.e)
                      have hst := HST.out.put hA eY (by omega) (Nat.le_trans hz2 hsz)
                      have hsc := HSC.out.eff eY (by omega) (by omega) (by omega)
                      have hak := (eY.block a (lt_of_heap HKY.out) (by omega)).trans HKY.out
                      clear eY hA HST HSC HKY HBK
                      rw [if_pos (by kernel_rfl)]
                      go_simp
                      clear z0 z1 z2 z3 z4 y0 y1 y2 y3 y4
                      refine hKK.out _ _ hsc (fun hHeld => ?_)
                      clear hKK KK hHeld hsc
                      generalize (((((Y1.setCell ⟨b, 0, none⟩ (.int .u64 r.u)).setCell ⟨b, 1, none⟩ (.string (strOf r.s))).setCell ⟨b, 2, none⟩ (.slice at1 nt ct)).setCell ⟨b, 3, none⟩ (.int .i64 r.next)).setCell ⟨b, 4, none⟩ (.int .i64 r.e)) = Y2 at kY hst hak ⊢
                      have HST := Lib.hid hst
                      have HAK := Lib.hid hak
                      have HKY := Lib.hid kY
                      clear hst hak kY
                      refine wpAnyH_done (by kernel_rfl) ?_ _
                      refine NoPanic.normal ?_
                      go_wp2_with fail
                      go_meet
                      exact ⟨a, b, aa, na, ca, at1, nt, ct, vb2, vi2, lb2, li2, rfl, rfl, HAK.out, HKY.out, hl1, hl2, HST.out⟩
                    exact AllReadyH.nil
                  exact AllReadyH.nil
                exact AllReadyH.nil
              exact AllReadyH.nil
            refine AllReadyH.cons rfl (fun KK hKK => ?_) ?_
            · rw [if_pos (by kernel_rfl)]
              go_simp
              have hq := HQ.out.allocB (fun w w2 e hz h => h.trans (e.mono hz)) (fun w w2 e hz h => h.eff (Eff.of_below e (fun _ => False)) (fun f => f) (fun f => f) (fun f => f))
              refine hKK.out _ _ hq.sc (fun hHeld => ?_)
              clear hKK KK HQ hHeld
              generalize XA.alloc (.cells #[.int .u64 0, .string ⟨#[]⟩, .slice none 0 0, .int .i64 0, .int .i64 0] 66) = XB at hq ⊢
              generalize XA.heap.size = b at hq ⊢
              have HQ := Lib.hid hq
              clear hq
              refine wpAnyH_ready (rs := [3]) (by kernel_rfl) (by simp) ?_
              refine AllReadyH.cons rfl (fun KK hKK => ?_) ?_
              · rw [if_pos (by kernel_rfl)]
                go_simp
                go_wp2_with (go_at_call 32; (with_reducible refine (CA.out _ _ _ HQ.out).mono ?_); rintro e wa ⟨aa, na, ca, vb2, vi2, lb2, li2, rfl, hl1, hl2, hq⟩)
                refine hKK.out _ _ hq.sc (fun hHeld => ?_)
                clear hKK KK HQ hHeld
                have HQ := Lib.hid hq
                clear hq
                refine wpAnyH_ready (rs := [13]) (by kernel_rfl) (by simp) ?_
                refine AllReadyH.cons rfl (fun KK hKK => ?_) ?_
                · rw [if_pos (by kernel_rfl)]
                  go_simp
                  go_wp2_with (go_at_call 33; (with_reducible refine (CT.out _ _ _ _ _ _ _ _ _ HQ.out).mono ?_); rintro e wt ⟨at1, nt, ct, rfl, hq⟩)
                  refine hKK.out _ _ hq.sc (fun hHeld => ?_)
                  clear hKK KK HQ hHeld
                  have HQ := Lib.hid hq
                  clear hq
                  refine wpAnyH_ready (rs := [16]) (by kernel_rfl) (by simp) ?_
                  refine AllReadyH.cons rfl (fun KK hKK => ?_) ?_
                  · have hA := (HQ.out.la a rfl).2
                    have z0 := blk_cell hA 0
                    have y0 := blk_frozen hA 0
                    have z1 := blk_cell hA 1
                    have y1 := blk_frozen hA 1
                    have z2 := blk_cell hA 2
                    have y2 := blk_frozen hA 2
                    have z3 := blk_cell hA 3
                    have y3 := blk_frozen hA 3
                    have z4 := blk_cell hA 4
                    have y4 := blk_frozen hA 4
                    obtain ⟨kY, eY⟩ := look_laid hA (.int .u64 r.u) (.string (strOf r.s)) (.slice aa na ca) (.int .i64 r.next) (.int .i64 r.e)
                    have hla := (HQ.out.la a rfl).1
                    have hlb := (HQ.out.lb b rfl).1
                    have hne := HQ.out.ne a b rfl rfl
                    have hst := HQ.out.st.put hA eY (by omega) (Nat.le_trans hz2 HQ.out.sz)
                    have hsc := HQ.out.sc.eff eY (by omega) (by omega) (by omega)
                    have hbk := (eY.block b (lt_of_heap (HQ.out.lb b rfl).2) (by omega)).trans (HQ.out.lb b rfl).2
                    have hsz := Nat.le_trans HQ.out.sz eY.size
                    clear eY hA HQ
                    rw [if_pos (by kernel_rfl)]
                    go_simp
                    clear z0 z1 z2 z3 z4 y0 y1 y2 y3 y4
                    refine hKK.out _ _ hsc (fun hHeld => ?_)
                    clear hKK KK hHeld
                    generalize (((((wt.setCell ⟨a, 0, none⟩ (.int .u64 r.u)).setCell ⟨a, 1, none⟩ (.string (strOf r.s))).setCell ⟨a, 2, none⟩ (.slice aa na ca)).setCell ⟨a, 3, none⟩ (.int .i64 r.next)).setCell ⟨a, 4, none⟩ (.int .i64 r.e)) = Y1 at kY hst hsc hbk hsz ⊢
                    have HST := Lib.hid hst
                    have HSC := Lib.hid hsc
                    have HBK := Lib.hid hbk
                    have HKY := Lib.hid kY
                    clear hst hsc hbk kY
                    refine wpAnyH_ready (rs := [17]) (by kernel_rfl) (by simp) ?_
                    refine AllReadyH.cons rfl (fun KK hKK => ?_) ?_
                    · have hA := HBK.out
                      have z0 := blk_cell hA 0
                      have y0 := blk_frozen hA 0
                      have z1 := blk_cell hA 1
                      have y1 := blk_frozen hA 1
                      have z2 := blk_cell hA 2
                      have y2 := blk_frozen hA 2
                      have z3 := blk_cell hA 3
                      have y3 := blk_frozen hA 3
                      have z4 := blk_cell hA 4
                      have y4 := blk_frozen hA 4
                      obtain ⟨kY, eY⟩ := look_laid hA (.int .u64 r.u) (.string (strOf r.s)) (.slice at1 nt ct) (.int .i64 r.next) (.int .i64 r.e)
                      have hst := HST.out.put hA eY (by omega) (Nat.le_trans hz2 hsz)
                      have hsc := HSC.out.eff eY (by omega) (by omega) (by omega)
                      have hak := (eY.block a (lt_of_heap HKY.out) (by omega)).trans HKY.out
                      clear eY hA HST HSC HKY HBK
                      rw [if_pos (by kernel_rfl)]
                      go_simp
                      clear z0 z1 z2 z3 z4 y0 y1 y2 y3 y4
                      refine hKK.out _ _ hsc (fun hHeld => ?_)
                      clear hKK KK hHeld hsc
                      generalize (((((Y1.setCell ⟨b, 0, none⟩ (.int .u64 r.u)).setCell ⟨b, 1, none⟩ (.string (strOf r.s))).setCell ⟨b, 2, none⟩ (.slice at1 nt ct)).setCell ⟨b, 3, none⟩ (.int .i64 r.next)).setCell ⟨b, 4, none⟩ (.int .i64 r.e)) = Y2 at kY hst hak ⊢
                      have HST := Lib.hid hst
                      have HAK := Lib.hid hak
                      have HKY := Lib.hid kY
                      clear hst hak kY
                      refine wpAnyH_done (by kernel_rfl) ?_ _
                      refine NoPanic.normal ?_
                      go_wp2_with fail
                      go_meet
                      exact ⟨a, b, aa, na, ca, at1, nt, ct, vb2, vi2, lb2, li2, rfl, rfl, HAK.out, HKY.out, hl1, hl2, HST.out⟩
                    exact AllReadyH.nil
                  exact AllReadyH.nil
                exact AllReadyH.nil
              exact AllReadyH.nil
            exact AllReadyH.nil
          refine AllReadyH.cons rfl (fun KK hKK => ?_) ?_
          · rw [if_pos (by kernel_rfl)]
            go_simp
            have hq := HQ.out.allocB (fun w w2 e hz h => h.trans (e.mono hz)) (fun w w2 e hz h => h.eff (Eff.of_below e (fun _ => False)) (fun f => f) (fun f => f) (fun f => f))
            refine hKK.out _ _ hq.sc (fun hHeld => ?_)
            clear hKK KK HQ hHeld
            generalize X0.alloc (.cells #[.int .u64 0, .string ⟨#[]⟩, .slice none 0 0, .int .i64 0, .int .i64 0] 66) = XB at hq ⊢
            generalize X0.heap.size = b at hq ⊢
            have HQ := Lib.hid hq
            clear hq
            refine wpAnyH_ready (rs := [3, 14]) (by kernel_rfl) (by simp) ?_
            refine AllReadyH.cons rfl (fun KK hKK => ?_) ?_
            · rw [if_pos (by kernel_rfl)]
              go_simp
              go_wp2_with (go_at_call 32; (with_reducible refine (CA.out _ _ _ HQ.out).mono ?_); rintro e wa ⟨aa, na, ca, vb2, vi2, lb2, li2, rfl, hl1, hl2, hq⟩)
              refine hKK.out _ _ hq.sc (fun hHeld => ?_)
              clear hKK KK HQ hHeld
              have HQ := Lib.hid hq
              clear hq
              refine wpAnyH_ready (rs := [13, 14]) (by kernel_rfl) (by simp) ?_
              refine AllReadyH.cons rfl (fun KK hKK => ?_) ?_
              · rw [if_pos (by kernel_rfl)]
                go_simp
                go_wp2_with (go_at_call 33; (with_reducible refine (CT.out _ _ _ _ _ _ _ _ _ HQ.out).mono ?_); rintro e wt ⟨at1, nt, ct, rfl, hq⟩)
                refine hKK.out _ _ hq.sc (fun hHeld => ?_)
                clear hKK KK HQ hHeld
                have HQ := Lib.hid hq
                clear hq
                refine wpAnyH_ready (rs := [14]) (by kernel_rfl) (by simp) ?_
                refine AllReadyH.cons rfl (fun KK hKK => ?_) ?_
                · rw [if_pos (by kernel_rfl)]
                  go_simp
                  have hq := HQ.out.allocA (fun w w2 e hz h => h.under e (Nat.le_trans hz2 hz)) (fun w w2 e hz h => h.eff (Eff.of_below e (fun _ => False)) (fun f => f) (fun f => f) (fun f => f))
                  refine hKK.out _ _ hq.sc (fun hHeld => ?_)
                  clear hKK KK HQ hHeld
                  generalize wt.alloc (.cells #[.int .u64 0, .string ⟨#[]⟩, .slice none 0 0, .int .i64 0, .int .i64 0] 66) = XA at hq ⊢
                  generalize wt.heap.size = a at hq ⊢
                  have HQ := Lib.hid hq
                  clear hq
                  refine wpAnyH_ready (rs := [16]) (by kernel_rfl) (by simp) ?_
                  refine AllReadyH.cons rfl (fun KK hKK => ?_) ?_
                  · have hA := (HQ.out.la a rfl).2
                    have z0 := blk_cell hA 0
                    have y0 := blk_frozen hA 0
                    have z1 := blk_cell hA 1
                    have y1 := blk_frozen hA 1
                    have z2 := blk_cell hA 2
                    have y2 := blk_frozen hA 2
                    have z3 := blk_cell hA 3
                    have y3 := blk_frozen hA 3
                    have z4 := blk_cell hA 4
                    have y4 := blk_frozen hA 4
                    obtain ⟨kY, eY⟩ := look_laid hA (.int .u64 r.u) (.string (strOf r.s)) (.slice aa na ca) (.int .i64 r.next) (.int .i64 r.e)
                    have hla := (HQ.out.la a rfl).1
                    have hlb := (HQ.out.lb b rfl).1
                    have hne := HQ.out.ne a b rfl rfl
                    have hst := HQ.out.st.put hA eY (by omega) (Nat.le_trans hz2 HQ.out.sz)
                    have hsc := HQ.out.sc.eff eY (by omega) (by omega) (by omega)
                    have hbk := (eY.block b (lt_of_heap (HQ.out.lb b rfl).2) (by omega)).trans (HQ.out.lb b rfl).2
                    have hsz := Nat.le_trans HQ.out.sz eY.size
                    clear eY hA HQ
                    rw [if_pos (by kernel_rfl)]
                    go_simp
                    clear z0 z1 z2 z3 z4 y0 y1 y2 y3 y4
                    refine hKK.out _ _ hsc (fun hHeld => ?_)
                    clear hKK KK hHeld
                    generalize (((((XA.setCell ⟨a, 0, none⟩ (.int .u64 r.u)).setCell ⟨a, 1, none⟩ (.string (strOf r.s))).setCell ⟨a, 2, none⟩ (.slice aa na ca)).setCell ⟨a, 3, none⟩ (.int .i64 r.next)).setCell ⟨a, 4, none⟩ (.int .i64 r.e)) = Y1 at kY hst hsc hbk hsz ⊢
                    have HST := Lib.hid hst
                    have HSC := Lib.hid hsc
                    have HBK := Lib.hid hbk
                    have HKY := Lib.hid kY
                    clear hst hsc hbk kY
                    refine wpAnyH_ready (rs := [17]) (by kernel_rfl) (by simp) ?_
                    refine AllReadyH.cons rfl (fun KK hKK => ?_) ?_
                    · have hA := HBK.out
                      have z0 := blk_cell hA 0
                      have y0 := blk_frozen hA 0
                      have z1 := blk_cell hA 1
                      have y1 := blk_frozen hA 1
                      have z2 := blk_cell hA 2
                      have y2 := blk_frozen hA 2
                      have z3 := blk_cell hA 3
                      have y3 := blk_frozen hA 3
                      have z4 := blk_cell hA 4
                      have y4 := blk_frozen hA 4
                      obtain ⟨kY, eY⟩ := look_laid hA (.int .u64 r.u) (.string (strOf r.s)) (.slice at1 nt ct) (.int .i64 r.next) (.int .i64 r.e)
                      have hst := HST.out.put hA eY (by omega) (Nat.le_trans hz2 hsz)
                      have hsc := HSC.out.eff eY (by omega) (by omega) (by omega)
                      have hak := (eY.block a (lt_of_heap HKY.out) (by omega)).trans HKY.out
                      clear eY hA HST HSC HKY HBK
                      rw [if_pos (by kernel_rfl)]
                      go_simp
                      clear z0 z1 z2 z3 z4 y0 y1 y2 y3 y4
                      refine hKK.out _ _ hsc (fun hHeld => ?_)
                      clear hKK KK hHeld hsc
                      generalize (((((Y1.setCell ⟨b, 0, none⟩ (.int .u64 r.u)).setCell ⟨b, 1, none⟩ (.string (strOf r.s))).setCell ⟨b, 2, none⟩ (.slice at1 nt ct)).setCell ⟨b, 3, none⟩ (.int .i64 r.next)).setCell ⟨b, 4, none⟩ (.int .i64 r.e)) = Y2 at kY hst hak ⊢
                      have HST := Lib.hid hst
                      have HAK := Lib.hid hak
                      have HKY := Lib.hid kY
                      clear hst hak kY
                      refine wpAnyH_done (by kernel_rfl) ?_ _
                      refine NoPanic.normal ?_
                      go_wp2_with fail
                      go_meet
                      exact ⟨a, b, aa, na, ca, at1, nt, ct, vb2, vi2, lb2, li2, rfl, rfl, HAK.out, HKY.out, hl1, hl2, HST.out⟩
                    exact AllReadyH.nil
                  exact AllReadyH.nil
                exact AllReadyH.nil
              refine AllReadyH.cons rfl (fun KK hKK => ?_) ?_
              · rw [if_pos (by kernel_rfl)]
                go_simp
                have hq := HQ.out.allocA (fun w w2 e hz h => h.under e (Nat.le_trans hz2 hz)) (fun w w2 e hz h => h.eff (Eff.of_below e (fun _ => False)) (fun f => f) (fun f => f) (fun f => f))
                refine hKK.out _ _ hq.sc (fun hHeld => ?_)
                clear hKK KK HQ hHeld
                generalize wa.alloc (.cells #[.int .u64 0, .string ⟨#[]⟩, .slice none 0 0, .int .i64 0, .int .i64 0] 66) = XA at hq ⊢
                generalize wa.heap.size = a at hq ⊢
                have HQ := Lib.hid hq
                clear hq
                refine wpAnyH_ready (rs := [13]) (by kernel_rfl) (by simp) ?_
                refine AllReadyH.cons rfl (fun KK hKK => ?_) ?_
                · rw [if_pos (by kernel_rfl)]
                  go_simp
                  go_wp2_with (go_at_call 33; (with_reducible refine (CT.out _ _ _ _ _ _ _ _ _ HQ.out).mono ?_); rintro e wt ⟨at1, nt, ct, rfl, hq⟩)
                  refine hKK.out _ _ hq.sc (fun hHeld => ?_)
                  clear hKK KK HQ hHeld
                  have HQ := Lib.hid hq
                  clear hq
                  refine wpAnyH_ready (rs := [16]) (by kernel_rfl) (by simp) ?_
                  refine AllReadyH.cons rfl (fun KK hKK => ?_) ?_
                  · have hA := (HQ.out.la a rfl).2
                    have z0 := blk_cell hA 0
                    have y0 := blk_frozen hA 0
                    have z1 := blk_cell hA 1
                    have y1 := blk_frozen hA 1
                    have z2 := blk_cell hA 2
                    have y2 := blk_frozen hA 2
                    have z3 := blk_cell hA 3
                    have y3 := blk_frozen hA 3
                    have z4 := blk_cell hA 4
                    have y4 := blk_frozen hA 4
                    obtain ⟨kY, eY⟩ := look_laid hA (.int .u64 r.u) (.string (strOf r.s)) (.slice aa na ca) (.int .i64 r.next) (.int .i64 r.e)
                    have hla := (HQ.out.la a rfl).1
                    have hlb := (HQ.out.lb b rfl).1
                    have hne := HQ.out.ne a b rfl rfl
                    have hst := HQ.out.st.put hA eY (by omega) (Nat.le_trans hz2 HQ.out.sz)
                    have hsc := HQ.out.sc.eff eY (by omega) (by omega) (by omega)
                    have hbk := (eY.block b (lt_of_heap (HQ.out.lb b rfl).2) (by omega)).trans (HQ.out.lb b rfl).2
                    have hsz := Nat.le_trans HQ.out.sz eY.size
                    clear eY hA HQ
                    rw [if_pos (by kernel_rfl)]
                    go_simp
                    clear z0 z1 z2 z3 z4 y0 y1 y2 y3 y4
                    refine hKK.out _ _ hsc (fun hHeld => ?_)
                    clear hKK KK hHeld
                    generalize (((((wt.setCell ⟨a, 0, none⟩ (.int .u64 r.u)).setCell ⟨a, 1, none⟩ (.string (strOf r.s))).setCell ⟨a, 2, none⟩ (.slice aa na ca)).setCell ⟨a, 3, none⟩ (.int .i64 r.next)).setCell ⟨a, 4, none⟩ (.int .i64 r.e)) = Y1 at kY hst hsc hbk hsz ⊢
                    have HST := Lib.hid hst
                    have HSC := Lib.hid hsc
                    have HBK := Lib.hid hbk
                    have HKY := Lib.hid kY
                    clear hst hsc hbk kY
                    refine wpAnyH_ready (rs := [17]) (by kernel_rfl) (by simp) ?_
                    refine AllReadyH.cons rfl (fun KK hKK => ?_) ?_
                    · have hA := HBK.out
                      have z0 := blk_cell hA 0
                      have y0 := blk_frozen hA 0
                      have z1 := blk_cell hA 1
                      have y1 := blk_frozen hA 1
                      have z2 := blk_cell hA 2
                      have y2 := blk_frozen hA 2
                      have z3 := blk_cell hA 3
                      have y3 := blk_frozen hA 3
                      have z4 := blk_cell hA 4
                      have y4 := blk_frozen hA 4
                      obtain ⟨kY, eY⟩ := look_laid hA (.int .u64 r.u) (.string (strOf r.s)) (.slice at1 nt ct) (.int .i64 r.next) (.int .i64 r.e)
                      have hst := HST.out.put hA eY (by omega) (Nat.le_trans hz2 hsz)
                      have hsc := HSC.out.eff eY (by omega) (by omega) (by omega)
                      have hak := (eY.block a (lt_of_heap HKY.out) (by omega)).trans HKY.out
                      clear eY hA HST HSC HKY HBK
                      rw [if_pos (by kernel_rfl)]
                      go_simp
                      clear z0 z1 z2 z3 z4 y0 y1 y2 y3 y4
                      refine hKK.out _ _ hsc (fun hHeld => ?_)
                      clear hKK KK hHeld hsc
                      generalize (((((Y1.setCell ⟨b, 0, none⟩ (.int .u64 r.u)).setCell ⟨b, 1, none⟩ (.string (strOf r.s))).setCell ⟨b, 2, none⟩ (.slice at1 nt ct)).setCell ⟨b, 3, none⟩ (.int .i64 r.next)).setCell ⟨b, 4, none⟩ (.int .i64 r.e)) = Y2 at kY hst hak ⊢
                      have HST := Lib.hid hst
                      have HAK := Lib.hid hak
                      have HKY := Lib.hid kY
                      clear hst hak kY
                      refine wpAnyH_done (by kernel_rfl) ?_ _
                      refine NoPanic.normal ?_
                      go_wp2_with fail
                      go_meet
                      exact ⟨a, b, aa, na, ca, at1, nt, ct, vb2, vi2, lb2, li2, rfl, rfl, HAK.out, HKY.out, hl1, hl2, HST.out⟩
                    exact AllReadyH.nil
                  exact AllReadyH.nil
                exact AllReadyH.nil
              exact AllReadyH.nil
            refine AllReadyH.cons rfl (fun KK hKK => ?_) ?_
            · rw [if_pos (by kernel_rfl)]
              go_simp
              have hq := HQ.out.allocA (fun w w2 e hz h => h.trans (e.mono hz)) (fun w w2 e hz h => h.eff (Eff.of_below e (fun _ => False)) (fun f => f) (fun f => f) (fun f => f))
              refine hKK.out _ _ hq.sc (fun hHeld => ?_)
              clear hKK KK HQ hHeld
              generalize XB.alloc (.cells #[.int .u64 0, .string ⟨#[]⟩, .slice none 0 0, .int .i64 0, .int .i64 0] 66) = XA at hq ⊢
              generalize XB.heap.size = a at hq ⊢
              have HQ := Lib.hid hq
              clear hq
              refine wpAnyH_ready (rs := [3]) (by kernel_rfl) (by simp) ?_
              refine AllReadyH.cons rfl (fun KK hKK => ?_) ?_
              · rw [if_pos (by kernel_rfl)]
                go_simp
                go_wp2_with (go_at_call 32; (with_reducible refine (CA.out _ _ _ HQ.out).mono ?_); rintro e wa ⟨aa, na, ca, vb2, vi2, lb2, li2, rfl, hl1, hl2, hq⟩)
                refine hKK.out _ _ hq.sc (fun hHeld => ?_)
                clear hKK KK HQ hHeld
                have HQ := Lib.hid hq
                clear hq
                refine wpAnyH_ready (rs := [13]) (by kernel_rfl) (by simp) ?_
                refine AllReadyH.cons rfl (fun KK hKK => ?_) ?_
                · rw [if_pos (by kernel_rfl)]
                  go_simp
                  go_wp2_with (go_at_call 33; (with_reducible refine (CT.out _ _ _ _ _ _ _ _ _ HQ.out).mono ?_); rintro e wt ⟨at1, nt, ct, rfl, hq⟩)
                  refine hKK.out _ _ hq.sc (fun hHeld => ?_)
                  clear hKK KK HQ hHeld
                  have HQ := Lib.hid hq
                  clear hq
                  refine wpAnyH_ready (rs := [16]) (by kernel_rfl) (by simp) ?_
                  refine AllReadyH.cons rfl (fun KK hKK => ?_) ?_
                  · have hA := (HQ.out.la a rfl).2
                    have z0 := blk_cell hA 0
                    have y0 := blk_frozen hA 0
                    have z1 := blk_cell hA 1
                    have y1 := blk_frozen hA 1
                    have z2 := blk_cell hA 2
                    have y2 := blk_frozen hA 2
                    have z3 := blk_cell hA 3
                    have y3 := blk_frozen hA 3
                    have z4 := blk_cell hA 4
                    have y4 := blk_frozen hA 4
                    obtain ⟨kY, eY⟩ := look_laid hA (.int .u64 r.u) (.string (strOf r.s)) (.slice aa na ca) (.int .i64 r.next) (.int .i64 r.e)
                    have hla := (HQ.out.la a rfl).1
                    have hlb := (HQ.out.lb b rfl).1
                    have hne := HQ.out.ne a b rfl rfl
                    have hst := HQ.out.st.put hA eY (by omega) (Nat.le_trans hz2 HQ.out.sz)
                    have hsc := HQ.out.sc.eff eY (by omega) (by omega) (by omega)
                    have hbk := (eY.block b (lt_of_heap (HQ.out.lb b rfl).2) (by omega)).trans (HQ.out.lb b rfl).2
                    have hsz := Nat.le_trans HQ.out.sz eY.size
                    clear eY hA HQ
                    rw [if_pos (by kernel_rfl)]
                    go_simp
                    clear z0 z1 z2 z3 z4 y0 y1 y2 y3 y4
                    refine hKK.out _ _ hsc (fun hHeld => ?_)
                    clear hKK KK hHeld
                    generalize (((((wt.setCell ⟨a, 0, none⟩ (.int .u64 r.u)).setCell ⟨a, 1, none⟩ (.string (strOf r.s))).setCell ⟨a, 2, none⟩ (.slice aa na ca)).setCell ⟨a, 3, none⟩ (.int .i64 r.next)).setCell ⟨a, 4, none⟩ (.int .i64 r.e)) = Y1 at kY hst hsc hbk hsz ⊢
                    have HST := Lib.hid hst
                    have HSC := Lib.hid hsc
                    have HBK := Lib.hid hbk
                    have HKY := Lib.hid kY
                    clear hst hsc hbk kY
                    refine wpAnyH_ready (rs := [17]) (by kernel_rfl) (by simp) ?_
                    refine AllReadyH.cons rfl (fun KK hKK => ?_) ?_
                    · have hA := HBK.out
                      have z0 := blk_cell hA 0
                      have y0 := blk_frozen hA 0
                      have z1 := blk_cell hA 1
                      have y1 := blk_frozen hA 1
                      have z2 := blk_cell hA 2
                      have y2 := blk_frozen hA 2
                      have z3 := blk_cell hA 3
                      have y3 := blk_frozen hA 3
                      have z4 := blk_cell hA 4
                      have y4 := blk_frozen hA 4
                      obtain ⟨kY, eY⟩ := look_laid hA (.int .u64 r.u) (.string (strOf r.s)) (.slice at1 nt ct) (.int .i64 r.next) (.int .i64 r.e)
                      have hst := HST.out.put hA eY (by omega) (Nat.le_trans hz2 hsz)
                      have hsc := HSC.out.eff eY (by omega) (by omega) (by omega)
                      have hak := (eY.block a (lt_of_heap HKY.out) (by omega)).trans HKY.out
                      clear eY hA HST HSC HKY HBK
                      rw [if_pos (by kernel_rfl)]
                      go_simp
                      clear z0 z1 z2 z3 z4 y0 y1 y2 y3 y4
                      refine hKK.out _ _ hsc (fun hHeld => ?_)
                      clear hKK KK hHeld hsc
                      generalize (((((Y1.setCell ⟨b, 0, none⟩ (.int .u64 r.u)).setCell ⟨b, 1, none⟩ (.string (strOf r.s))).setCell ⟨b, 2, none⟩ (.slice at1 nt ct)).setCell ⟨b, 3, none⟩ (.int .i64 r.next)).setCell ⟨b, 4, none⟩ (.int .i64 r.e)) = Y2 at kY hst hak ⊢
                      have HST := Lib.hid hst
                      have HAK := Lib.hid hak
                      have HKY := Lib.hid kY
                      clear hst hak kY
                      refine wpAnyH_done (by kernel_rfl) ?_ _
                      refine NoPanic.normal ?_
                      go_wp2_with fail
                      go_meet
                      exact ⟨a, b, aa, na, ca, at1, nt, ct, vb2, vi2, lb2, li2, rfl, rfl, HAK.out, HKY.out, hl1, hl2, HST.out⟩
                    exact AllReadyH.nil
                  exact AllReadyH.nil
                exact AllReadyH.nil
              exact AllReadyH.nil
            exact AllReadyH.nil
          exact AllReadyH.nil
        case rest =>
          obtain ⟨a, b, aa, na, ca, at1, nt, ct, vb2, vi2, lb2, li2, rfl, rfl, hka, hkb, hl1, hl2, hst⟩ := hcut
          have hll : (r.l.length : Int) ≤ 9223372036854775807 := by
            have h := own_cap hst.s1.ow
            have h2 := hst.s1.ow.len
            rw [show (intL r.l).length = r.l.length by simp [intL]] at h2
            unfold maxLen at h
            omega
          have C1 := slook_any wc r aa at1 na nt ca ct hst.s1.ow.rd hst.rt.rd hll
          have x0 := blk_cell hka 0
          have x1 := blk_cell hka 1
          have x2 := blk_cell hka 2
          have x3 := blk_cell hka 3
          have x4 := blk_cell hka 4
          have u0 := blk_cell hkb 0
          have u1 := blk_cell hkb 1
          have u2 := blk_cell hkb 2
          have u3 := blk_cell hkb 3
          have u4 := blk_cell hkb 4
          have HST := Lib.hid hst
          have HKB := Lib.hid hkb
          clear hst hka hkb hll HQ CA CT
          go_wp2_with fail
          refine C1.mono ?_
          rintro e w2 ⟨rfl, hbs⟩
          clear C1 x0 x1 x2 x3 x4 u0 u1 u2 u3 u4
          have hst2 := HST.out.under hbs HST.out.s1.bl.size
          have hkb2 := (hbs.block b (lt_of_heap HKB.out)).trans HKB.out
          have g3 := blk_cell hkb2 3
          have n3 : w2.cell? ⟨pa, kk, none⟩ = some (.int .i64 (k sec)) := by rw [blk_cell hst2.s1.rs.aa kk, ← HKS.out]; cases sec <;> rfl
          have f3 := blk_frozen hst2.s1.rs.aa kk
          have hrs3 := hst2.s1.rs.setA sec r.next
          rw [HKS.out] at hrs3
          have hbb3 := hst2.s1.bl.setCell (p := ⟨pa, kk, none⟩) HRS1.out.ap (.int .i64 r.next)
          have HRS3 := Lib.hid hrs3
          have HBB3 := Lib.hid hbb3
          clear hst2 hkb2 hrs3 hbb3 hbs HST HKB
          go_wp2
          go_roundw
          case rel => exact ⟨i + 1, updR k sec r.next, vb2, vi2, lb2, li2, by go_num, by omega, HRS3.out, by omega, by omega, HBB3.out⟩
          case measure => simp [intOf]; omega
        -- ARMEND
        -- ARMEND
        -- ARMEND
        -- ARMEND
        -- ARMEND
        -- ARMEND
        -- ARMEND
        -- ARMEND
        -- ARMEND
    · obtain rfl : i = ops.length := by omega
      have C2 := rend_any wr w.heap.size H0 pr pk pd pa p v x bs2 k vb vi lb li hrs hBH (by omega) (by omega) (fun b => by have := HBSL.out b; omega)
      have HB := Lib.hid hb
      clear hrs hb hlt
      go_wp2_with fail
      refine C2.mono ?_
      rintro e w' ⟨rfl, hbe⟩
      clear C2
      go_wp2
      go_ret
      exact ⟨rfl, HB.out.trans hbe⟩
end Go.Proofs.YtmmflhippbegaaaDoor
