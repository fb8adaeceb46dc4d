/- The walk of the law CodecWrites. -/
import Derived.Test.YtmmflhippbegaaaDoorZPutA
import Derived.Test.YtmmflhippbegaaaDoorZWrS
import Derived.Deep.RegionHeld
namespace Go.Proofs.YtmmflhippbegaaaDoor
set_option linter.unusedVariables false
open Go.ChangeShapes Go.WideShapes Go.ChangeAt Go.RowKit

theorem elStrW : Elem Tryd.prog 44 9 (.string ⟨#[]⟩) 16 := ⟨Tryd.underlying44, by kernel_rfl, rfl, by decide⟩
theorem Wr.lowW {w : World} {B B0 p : Nat} {v : Value} {bs : List UInt8} (h : Wr w B p v bs) (hB : B0 ≤ B) : Wr w B0 p v bs := ⟨h.blk, Nat.le_trans hB h.hp, own_base h.own hB⟩
/-- What was handed out, one by one. -/
theorem WS.outAt {w : World} {B pk ph : Nat} {p : Bool → Nat} {v x : Bool → Value} {hv hx : Bool → List UInt8} {vb vk vw : Value} {lb lk lw : List Value} {K : List (Value × List UInt8)} (h : WS w B pk ph p v x hv hx vb vk vw lb lk lw K) {i : Nat} {y : Value × List UInt8} (hy : K[i]? = some y) : Own w B 5 y.1 (bytesV y.2) :=
  h.sp.own (i + 4) y (by simpa using hy)
theorem WS.outLast {w : World} {B pk ph : Nat} {p : Bool → Nat} {v x : Bool → Value} {hv hx : Bool → List UInt8} {vb vk vw : Value} {lb lk lw : List Value} {K : List (Value × List UInt8)} {u : Value} {bs : List UInt8} (h : WS w B pk ph p v x hv hx vb vk vw lb lk lw (K ++ [(u, bs)])) : Own w B 5 u (bytesV bs) :=
  h.outAt (i := K.length) (y := (u, bs)) (by simp)
theorem WS.outLow {w : World} {B pk ph : Nat} {p : Bool → Nat} {v x : Bool → Value} {hv hx : Bool → List UInt8} {vb vk vw : Value} {lb lk lw : List Value} {K : List (Value × List UInt8)} (h : WS w B pk ph p v x hv hx vb vk vw lb lk lw K) : ∀ k, (BlocksOf (K.map (·.1)) k ∨ BlocksOf [] k) → B ≤ k := by
  rintro k (⟨i, y, hy, hk⟩ | ⟨i, y, hy, hk⟩)
  · rw [List.getElem?_map] at hy
    cases hz : K[i]? with
    | none => rw [hz] at hy; cases hy
    | some z => rw [hz] at hy; simp at hy; subst hy; exact ((h.outAt hz).lt k hk).1
  · simp at hy
theorem ws_new (w1 : World) (B : Nat) (hB : B ≤ w1.heap.size) :
    WS ((((((((w1.alloc (.cells #[.slice none 0 0] 87)).alloc (.cells #[.slice none 0 0] 87)).alloc (.cells #[] 5)).alloc (.cells #[] 5)).alloc (.cells #[.slice (some ⟨w1.heap.size + 1 + 1, 0, none⟩) 0 0, .slice (some ⟨w1.heap.size + 1 + 1 + 1, 0, none⟩) 0 0] 37)).alloc (.cells #[.slice none 0 0, .slice none 0 0, .slice none 0 0] 43)).alloc (.cells #[] 37)).alloc (.cells #[] 9))
      B (w1.heap.size + 1 + 1 + 1 + 1 + 1) (w1.heap.size + 1 + 1 + 1 + 1) (fun b => bif b then w1.heap.size + 1 else w1.heap.size) (fun _ => .slice none 0 0) (fun b => .slice (some ⟨bif b then w1.heap.size + 3 else w1.heap.size + 1 + 1, 0, none⟩) 0 0) (fun _ => []) (fun _ => []) (.slice none 0 0) (.slice (some ⟨w1.heap.size + 1 + 1 + 1 + 1 + 1 + 1, 0, none⟩) 0 0) (.slice (some ⟨w1.heap.size + 1 + 1 + 1 + 1 + 1 + 1 + 1, 0, none⟩) 0 0) [] [] [] [] := by
  obtain ⟨W1, e1⟩ : ∃ W, W = w1.alloc (.cells #[.slice none 0 0] 87) := ⟨_, rfl⟩
  rw [← e1]
  obtain ⟨W2, e2⟩ : ∃ W, W = W1.alloc (.cells #[.slice none 0 0] 87) := ⟨_, rfl⟩
  rw [← e2]
  obtain ⟨W3, e3⟩ : ∃ W, W = W2.alloc (.cells #[] 5) := ⟨_, rfl⟩
  rw [← e3]
  obtain ⟨W4, e4⟩ : ∃ W, W = W3.alloc (.cells #[] 5) := ⟨_, rfl⟩
  rw [← e4]
  obtain ⟨W5, e5⟩ : ∃ W, W = W4.alloc (.cells #[.slice (some ⟨w1.heap.size + 1 + 1, 0, none⟩) 0 0, .slice (some ⟨w1.heap.size + 1 + 1 + 1, 0, none⟩) 0 0] 37) := ⟨_, rfl⟩
  rw [← e5]
  obtain ⟨W6, e6⟩ : ∃ W, W = W5.alloc (.cells #[.slice none 0 0, .slice none 0 0, .slice none 0 0] 43) := ⟨_, rfl⟩
  rw [← e6]
  obtain ⟨W7, e7⟩ : ∃ W, W = W6.alloc (.cells #[] 37) := ⟨_, rfl⟩
  rw [← e7]
  obtain ⟨W8, e8⟩ : ∃ W, W = W7.alloc (.cells #[] 9) := ⟨_, rfl⟩
  rw [← e8]
  have s1 : W1.heap.size = w1.heap.size + 1 := by subst e1; simp
  have s2 : W2.heap.size = w1.heap.size + 2 := by subst e2; simp; omega
  have s3 : W3.heap.size = w1.heap.size + 3 := by subst e3; simp; omega
  have s4 : W4.heap.size = w1.heap.size + 4 := by subst e4; simp; omega
  have s5 : W5.heap.size = w1.heap.size + 5 := by subst e5; simp; omega
  have s6 : W6.heap.size = w1.heap.size + 6 := by subst e6; simp; omega
  have s7 : W7.heap.size = w1.heap.size + 7 := by subst e7; simp; omega
  have nf : ∀ i : Nat, (fun _ : Nat => False) i → i < w1.heap.size → False := fun _ f _ => f
  have E7 : Eff (fun _ => False) W7 W8 := by rw [e8]; exact (Eff.refl _ _).alloc _
  have E6 : Eff (fun _ => False) W6 W8 := Eff.trans (G := fun _ => False) (by rw [e7]; exact (Eff.refl _ _).alloc _) E7 (fun _ f _ => f)
  have E5 : Eff (fun _ => False) W5 W8 := Eff.trans (G := fun _ => False) (by rw [e6]; exact (Eff.refl _ _).alloc _) E6 (fun _ f _ => f)
  have E4 : Eff (fun _ => False) W4 W8 := Eff.trans (G := fun _ => False) (by rw [e5]; exact (Eff.refl _ _).alloc _) E5 (fun _ f _ => f)
  have E3 : Eff (fun _ => False) W3 W8 := Eff.trans (G := fun _ => False) (by rw [e4]; exact (Eff.refl _ _).alloc _) E4 (fun _ f _ => f)
  have E2 : Eff (fun _ => False) W2 W8 := Eff.trans (G := fun _ => False) (by rw [e3]; exact (Eff.refl _ _).alloc _) E3 (fun _ f _ => f)
  have E1 : Eff (fun _ => False) W1 W8 := Eff.trans (G := fun _ => False) (by rw [e2]; exact (Eff.refl _ _).alloc _) E2 (fun _ f _ => f)
  have k1 : Wr W8 B w1.heap.size (.slice none 0 0) [] := Wr.eff (by rw [e1]; exact (wr_new w1).lowW hB) E1 (fun _ _ f => f)
  have k2 : Wr W8 B (w1.heap.size + 1) (.slice none 0 0) [] := Wr.eff (by have := (wr_new W1).lowW (B0 := B) (by omega); rw [← e2, s1] at this; exact this) E2 (fun _ _ f => f)
  have k3 : Own W8 B 5 (.slice (some ⟨w1.heap.size + 2, 0, none⟩) 0 0) [] := Own.eff (by have := own_empty W2 B 5 (by omega); rw [← e3, s2] at this; exact this) E3 (fun _ _ f => f)
  have k4 : Own W8 B 5 (.slice (some ⟨w1.heap.size + 3, 0, none⟩) 0 0) [] := Own.eff (by have := own_empty W3 B 5 (by omega); rw [← e4, s3] at this; exact this) E4 (fun _ _ f => f)
  have k5 : W8.heap[w1.heap.size + 4]? = some (.cells #[.slice (some ⟨w1.heap.size + 2, 0, none⟩) 0 0, .slice (some ⟨w1.heap.size + 3, 0, none⟩) 0 0] 37 (0, 0)) := (E5.block _ (by omega) (fun f => f)).trans (by rw [e5, ← s4]; exact heap_alloc_new W4 _)
  have k6 : W8.heap[w1.heap.size + 5]? = some (.cells #[.slice none 0 0, .slice none 0 0, .slice none 0 0] 43 (0, 0)) := (E6.block _ (by omega) (fun f => f)).trans (by rw [e6, ← s5]; exact heap_alloc_new W5 _)
  have k7 : Own W8 B 37 (.slice (some ⟨w1.heap.size + 6, 0, none⟩) 0 0) [] := Own.eff (by have := own_empty W6 B 37 (by omega); rw [← e7, s6] at this; exact this) E7 (fun _ _ f => f)
  have k8 : Own W8 B 9 (.slice (some ⟨w1.heap.size + 7, 0, none⟩) 0 0) [] := by have := own_empty W7 B 9 (by omega); rw [← e8, s7] at this; exact this
  refine ⟨fun b => ?_, (by simp), k5, by omega, ⟨k6, by omega, own_nil _ _ _, own_nil _ _ _, fun _ => rfl, fun _ => rfl⟩, k7, k8, ⟨fun i y hy => ?_, fun i j y z k hy hz h1 h2 => ?_⟩, by simp [Value.ownBlock], by simp [Value.ownBlock]; omega, fun k hk => by simp [Value.ownBlock] at hk⟩
  · cases b
    · exact k1
    · exact k2
  · rcases i with _ | _ | _ | _ | i
    · simp at hy; subst hy; exact own_nil _ _ _
    · simp at hy; subst hy; exact own_nil _ _ _
    · simp at hy; subst hy; exact k3
    · simp at hy; subst hy; exact k4
    · simp at hy
  · have key : ∀ (i : Nat) (y : Value × List UInt8), ([((.slice none 0 0 : Value), ([] : List UInt8)), (.slice none 0 0, []), (.slice (some ⟨w1.heap.size + 2, 0, none⟩) 0 0, []), (.slice (some ⟨w1.heap.size + 3, 0, none⟩) 0 0, [])])[i]? = some y → y.1.ownBlock = some k → i = k - w1.heap.size ∧ w1.heap.size ≤ k := by
      intro i y hy hk
      rcases i with _ | _ | _ | _ | i
      · simp at hy; subst hy; simp [Value.ownBlock] at hk
      · simp at hy; subst hy; simp [Value.ownBlock] at hk
      · simp at hy; subst hy; simp [Value.ownBlock] at hk; omega
      · simp at hy; subst hy; simp [Value.ownBlock] at hk; omega
      · simp at hy
    have h3 := key i y hy h1
    have h4 := key j z hz h2
    omega
/-- No more is held than was put. -/
def HL (ops : List OpV) (h : Bool → List UInt8) (i : Nat) : Prop := ∀ b, (h b).length ≤ 40 * ((ops.take i).map wgt).sum
theorem HL.skip {ops : List OpV} {h : Bool → List UInt8} {i : Nat} (H : HL ops h i) (hi : i < ops.length) : HL ops h (i + 1) := fun b => Nat.le_trans (H b) (by rw [take_one hi, List.map_append, List.sum_append]; omega)
theorem HL.put {ops : List OpV} {h : Bool → List UInt8} {i : Nat} (H : HL ops h i) (hi : i < ops.length) {nb : List UInt8} (hn : nb.length ≤ 40 * wgt ops[i]) (b : Bool) : HL ops (upd h b (h b ++ nb)) (i + 1) := fun c => by
  have h1 := H c
  have h2 := H b
  have e : ((ops.take (i + 1)).map wgt).sum = ((ops.take i).map wgt).sum + wgt ops[i] := by rw [take_one hi, List.map_append, List.sum_append]; simp
  unfold upd
  split
  · rw [List.length_append, e]; omega
  · rw [e]; omega
theorem HL.zero {ops : List OpV} {h : Bool → List UInt8} {i : Nat} (H : HL ops h i) (hi : i < ops.length) (b : Bool) : HL ops (upd h b []) (i + 1) := fun c => by
  have h1 := H.skip hi c
  unfold upd
  split
  · simp
  · exact h1
theorem HL.bound {ops : List OpV} {h : Bool → List UInt8} {i : Nat} (H : HL ops h i) (hw : (ops.map wgt).sum ≤ 1048576) (b : Bool) : (h b).length ≤ 100000000 := by
  have h1 := H b
  have h2 : ((ops.take i).map wgt).sum ≤ (ops.map wgt).sum := by
    conv => rhs; rw [← List.take_append_drop i ops]
    rw [List.map_append, List.sum_append]; omega
  omega
theorem len_lists {w : World} {b : Nat} {e : TypeId} {v : Value} {xs : List Value} (h : Own w b e v xs) : ∃ a c, v = .slice a xs.length c := own_slice h

set_option maxRecDepth 100000 in
set_option maxHeartbeats 4000000 in
theorem writes_walk (w : World) (a : Option Addr) (m c : Nat) (ops : List OpV) (hops : RdOps w a m ops) (hol : ops.length ≤ 1048576) (BL : OpV → List UInt8) (LL : OpV → List Int) (hop : ∀ o ∈ ops, OpRd w w.heap.size o (BL o) (LL o)) (hwg : (ops.map wgt).sum ≤ 1048576)
    (EA : Nat → Addr) (hS : Sent w EA) (hE : RErr w EA) :
    Calls Tryd.prog 4 #[.slice a m c] w fun e w' => e = .returned (.bool true) ∧ Below w.heap.size w w' := by
  obtain rfl := hops.1
  have C0 := lives_any w (errV EA) hE.s hE.v
  have HOPS := Lib.hid hops
  have HS := Lib.hid hS
  have HOP := Lib.hid hop
  clear hops hS hop hE
  go_enter Tryd.func4, Tryd.ntmps4
  go_wp2_with fail
  refine C0.mono ?_
  rintro e w1 ⟨rfl, hb1⟩
  clear C0
  go_wp2_with fail
  refine (nw_any w1).mono ?_
  rintro e w2 ⟨rfl, rfl⟩
  go_wp2_with fail
  refine (nw_any _).mono ?_
  rintro e w2 ⟨rfl, rfl⟩
  have hws := ws_new w1 w.heap.size hb1.size
  have hbw := (((((((hb1.alloc hb1.size (.cells #[.slice none 0 0] 87)).alloc (Nat.le_trans hb1.size (by simp)) (.cells #[.slice none 0 0] 87)).alloc (Nat.le_trans hb1.size (by simp; omega)) (.cells #[] 5)).alloc (Nat.le_trans hb1.size (by simp; omega)) (.cells #[] 5)).alloc (Nat.le_trans hb1.size (by simp; omega)) (.cells #[.slice (some ⟨w1.heap.size + 1 + 1, 0, none⟩) 0 0, .slice (some ⟨w1.heap.size + 1 + 1 + 1, 0, none⟩) 0 0] 37)).alloc (Nat.le_trans hb1.size (by simp; omega)) (.cells #[.slice none 0 0, .slice none 0 0, .slice none 0 0] 43)).alloc (Nat.le_trans hb1.size (by simp; omega)) (.cells #[] 37)).alloc (Nat.le_trans hb1.size (by simp; omega)) (.cells #[] 9)
  have HWS := Lib.hid hws
  have HBW := Lib.hid hbw
  clear hws hbw hb1
  go_wp2
  have hws := HWS.out
  have hbw := HBW.out
  clear HWS HBW
  generalize ((((((((w1.alloc (.cells #[.slice none 0 0] 87)).alloc (.cells #[.slice none 0 0] 87)).alloc (.cells #[] 5)).alloc (.cells #[] 5)).alloc (.cells #[.slice (some ⟨w1.heap.size + 1 + 1, 0, none⟩) 0 0, .slice (some ⟨w1.heap.size + 1 + 1 + 1, 0, none⟩) 0 0] 37)).alloc (.cells #[.slice none 0 0, .slice none 0 0, .slice none 0 0] 43)).alloc (.cells #[] 37)).alloc (.cells #[] 9)) = W0 at hws hbw ⊢
  obtain ⟨p, hp⟩ : ∃ p : Bool → Nat, (fun b => bif b then w1.heap.size + 1 else w1.heap.size) = p := ⟨_, rfl⟩
  have hp0 : w1.heap.size = p false := by rw [← hp]; rfl
  have hp1 : w1.heap.size + 1 = p true := by rw [← hp]; rfl
  rw [hp] at hws
  obtain ⟨x0, hx0⟩ : ∃ x0 : Bool → Value, (fun b => Value.slice (some ⟨bif b then w1.heap.size + 1 + 1 + 1 else w1.heap.size + 1 + 1, 0, none⟩) 0 0) = x0 := ⟨_, rfl⟩
  rw [hx0] at hws
  obtain ⟨ph, hph⟩ : ∃ ph, w1.heap.size + 1 + 1 + 1 + 1 = ph := ⟨_, rfl⟩
  rw [hph] at hws ⊢
  obtain ⟨pk, hpk⟩ : ∃ pk, ph + 1 = pk := ⟨_, rfl⟩
  rw [hpk] at hws ⊢
  rw [hp1, hp0]
  have HWS2 := Lib.hid hws
  have HBW := Lib.hid hbw
  clear hph hpk hp0 hp1 hp hx0 hws hbw
  go_loopw [8, 9, 40] (fun s8 s9 s40 wr => ∃ (i : Nat) (v x : Bool → Value) (h : Bool → List UInt8) (vb vk vw : Value) (K : List (Value × List UInt8)), s40 = .int .i64 i ∧ i ≤ ops.length ∧ s8 = vk ∧ s9 = vw ∧
    WS wr w.heap.size pk ph p v x h h vb vk vw (K.map (·.1)) (K.map (·.1)) (K.map fun y => .string (strOf y.2)) K ∧ HL ops h i ∧ K.length ≤ i ∧ (∀ y ∈ K, y.2.length ≤ 1000000000) ∧ Below w.heap.size w wr) (fun _ _ s _ => ops.length - (intOf s).toNat)
  case atStart => exact ⟨0, _, _, _, _, _, _, [], rfl, Nat.zero_le _, rfl, rfl, HWS2.out, fun b => Nat.zero_le _, Nat.le_refl _, fun y hy => (by cases hy), HBW.out⟩
  case round =>
    clear HWS2 HBW
    obtain ⟨i, v, x, h, vb, vk, vw, K, rfl, hi, rfl, rfl, hws, hhl, hkl, hkb, hb⟩ := hrel
    have hsz := hb.size
    by_cases hlt : i < ops.length
    · obtain ⟨_, hoo⟩ := HOPS.out.below hb (Nat.le_refl _)
      obtain ⟨bb, oo, rfl, hcells⟩ := hoo (by omega)
      have hopi := HOP.out ops[i] (List.getElem_mem hlt)
      have hc := hcells i hlt
      have hskip := hhl.skip hlt
      have hput := fun nb => hhl.put hlt (nb := nb)
      have hzero := hhl.zero hlt
      have hbnd := hhl.bound hwg
      obtain ⟨op, hopq⟩ : ∃ op, ops[i] = op := ⟨_, rfl⟩
      rw [hopq] at hc hopi hput
      obtain ⟨bl, hbl⟩ : ∃ bl, BL op = bl := ⟨_, rfl⟩
      obtain ⟨l, hll⟩ : ∃ l, LL op = l := ⟨_, rfl⟩
      rw [hbl, hll] at hopi
      obtain ⟨kd, sec, n, u, ii, ba, bn, bc, os, la, ln, lc⟩ := op
      have d0 := hc 0 _ rfl
      have d1 := hc 1 _ rfl
      have d2 := hc 2 _ rfl
      have d3 := hc 3 _ rfl
      have d4 := hc 4 _ rfl
      have d5 := hc 5 _ rfl
      have d6 := hc 6 _ rfl
      have d7 := hc 7 _ rfl
      rw [Nat.add_zero] at d0
      simp only at d0 d1 d2 d3 d4 d5 d6 d7
      obtain ⟨o1, ho1⟩ : ∃ o1, o1 = Obj.cells #[.int .i64 kd, .bool sec, .int .i64 n, .int .u64 u, .int .i64 ii, .slice ba bn bc, .string os, .slice la ln lc] 46 := ⟨_, rfl⟩
      have hws1 := hws.alloc o1
      have hbb : Below w.heap.size w (wr.alloc o1) := hb.alloc hb.size _
      have hbx : Cells8 (wr.alloc o1) wr.heap.size (.int .i64 kd) (.bool sec) (.int .i64 n) (.int .u64 u) (.int .i64 ii) (.slice ba bn bc) (.string os) (.slice la ln lc) := by
        subst ho1; exact Cells8.of (heap_alloc_new wr _)
      obtain ⟨b0, b1, b2, b3, b4, b5, b6, b7⟩ := hbx
      have HWS1 := Lib.hid hws1
      have HBB := Lib.hid hbb
      have HHL := Lib.hid hhl
      have HSK := Lib.hid hskip
      have HPT := Lib.hid hput
      have HZR := Lib.hid hzero
      have HBD := Lib.hid hbnd
      have HKB := Lib.hid hkb
      have HOI := Lib.hid hopi
      clear hws hws1 hbb hhl hskip hput hzero hbnd hkb hopi hc hcells hoo hbl hll hopq hb
      rw [ho1] at HWS1 HBB b0 b1 b2 b3 b4 b5 b6 b7
      clear ho1
      go_upto_if 46 with fail
      go_cut [12, 13] (fun s12 s13 wx => wr.alloc (.cells #[.int .i64 kd, .bool sec, .int .i64 n, .int .u64 u, .int .i64 ii, .slice ba bn bc, .string os, .slice la ln lc] 46) = wx ∧ s12 = .pointer (some ⟨p sec, 0, none⟩) ∧ s13 = .int .i64 ((sec.toNat : Nat) : Int))
      case first =>
        cases sec
        · go_wp2
          all_goals go_meet
          exact ⟨rfl, rfl, rfl⟩
        · go_wp2
          all_goals go_meet
          exact ⟨rfl, rfl, rfl⟩
      case rest =>
        obtain ⟨rfl, rfl, rfl⟩ := hcut
        have hz2 : w.heap.size ≤ (wr.alloc (.cells #[.int .i64 kd, .bool sec, .int .i64 n, .int .u64 u, .int .i64 ii, .slice ba bn bc, .string os, .slice la ln lc] 46)).heap.size := HBB.out.size
        obtain ⟨k, hk⟩ : ∃ k : Nat, sec.toNat = k := ⟨_, rfl⟩
        have hk2 : k < 2 := by cases sec <;> simp at hk <;> omega
        have hkI : (k : Int) < 2 := by omega
        have hax := HWS1.out.ownX sec
        have hph : (wr.alloc (.cells #[.int .i64 kd, .bool sec, .int .i64 n, .int .u64 u, .int .i64 ii, .slice ba bn bc, .string os, .slice la ln lc] 46)).cell? ⟨ph, k, none⟩ = some (x sec) := by
          rw [blk_cell HWS1.out.hh k, ← hk]; cases sec <;> rfl
        obtain ⟨ax, cx, hxs⟩ := own_slice hax
        rw [bytesV_length] at hxs
        rw [hxs] at hph hax
        have hhb := HBD.out sec
        rw [hk]
        have HK := Lib.hid hk
        have HXS := Lib.hid hxs
        clear hk hxs
        by_cases h11 : kd = 11
        · have t1 : (kd == 11) = true := by simpa using h11
          have C1 := fun d : Nat => wlen_any _ _ _ _ _ ((HWS1.out.wr sec).drewN d)
          have HC1 := Lib.hid C1
          clear C1 h11
          go_wp2
          go_quiet ((go_at_call 14; exact quiet_leftN (HC1.out _)))
          go_wp2
          go_roundw
          case rel => exact ⟨i + 1, v, x, h, vb, _, _, K, by go_num, by omega, rfl, rfl, HWS1.out.drewN _, HSK.out, by omega, HKB.out, below_drewN HBB.out _⟩
          case measure => simp [intOf]; omega
        by_cases h12 : kd = 12
        · have t1 : (kd == 11) = false := by simpa using h11
          have t2 : (kd == 12) = true := by simpa using h12
          have C1 := wbytes_any _ _ _ _ _ (HWS1.out.wr sec) (by omega)
          clear h11 h12
          go_wp2_with fail
          refine C1.mono ?_
          rintro e w3 ⟨v3, rfl, ho3, hb3⟩
          clear C1
          have hws3 := HWS1.out.out hb3 hz2 ho3
          have hbb3 := HBB.out.trans (hb3.mono hz2)
          obtain ⟨a3, c3, rfl⟩ := own_slice ho3
          rw [bytesV_length] at hws3 ho3 ⊢
          have hx3 := hws3.ownX sec
          have HXS3 := HXS.out
          rw [HXS3] at hx3
          have r1 := fun d : Nat => run_str (P := Tryd.prog) Tryd.underlying37 Tryd.underlying5 Tryd.underlying9 (ho3.drewN d).rd
          have r2 := fun d : Nat => run_str (P := Tryd.prog) Tryd.underlying37 Tryd.underlying5 Tryd.underlying9 (hx3.drewN d).rd
          have hph3 : w3.cell? ⟨ph, k, none⟩ = some (.slice ax (h sec).length cx) := by
            rw [blk_cell hws3.hh k, ← HK.out, ← HXS3]; cases sec <;> rfl
          have HWS3 := Lib.hid hws3
          have HBB3 := Lib.hid hbb3
          clear HXS3 hx3 ho3 hws3 hbb3 hb3 hph hax
          have hz3 : w.heap.size ≤ w3.heap.size := HBB3.out.size
          have C2 := fun d : Nat => bkB_f (w3.drewN d) _ _ _ _ _ _ (HWS3.out.drewN d).bk hz3 (by simp; omega) a3 (h sec).length c3
          have HC2 := Lib.hid C2
          clear C2
          go_wp2
          go_quiet (fail)
          clear r1 r2 hph3
          go_wp2_with fail
          refine (HC2.out _).mono ?_
          rintro e w4 ⟨rfl, vb4, hk4, e4, f4⟩
          have hws4 := (HWS3.out.drewN _).book hk4 e4 f4
          have hbb4 := (below_drewN HBB3.out _).trans ((HWS3.out.drewN _).bk.below e4 hz3)
          have hz4 : w.heap.size ≤ w4.heap.size := hbb4.size
          have hkp4 := hws4.kp
          obtain ⟨ak, nk, ck, rfl⟩ := own_sl hkp4
          have hl4 : (K.map (·.1)).length < 1000000000000 := by simp; omega
          have HWS4 := Lib.hid hws4
          have HBB4 := Lib.hid hbb4
          clear hk4 e4 f4 hws4 hbb4 HWS3 HBB3 HC2
          go_wp2_with (at_builtin; with_reducible refine ap1' elLists rfl hkp4 hl4 hz4 rfl _ _ rfl rfl rfl ?_)
          intro v5 w5 g1 g2 g3 g4
          have e5 := (Eff.refl (fun k => (Value.slice ak nk ck).ownBlock = some k) w4).grown g4 (fun i hi _ => hi)
          have f5 : Fresh w4.heap.size (Value.slice ak nk ck) v5 := fun k hk => by
            rcases g3 with g3 | g3
            · rw [g3] at hk; exact .inl hk
            · rw [g3.1] at hk; injection hk with hk; exact .inr (by omega)
          have hws5 := HWS4.out.kept g1 e5 f5
          have hbb5 := HBB4.out.trans (e5.below (fun k hk => (hkp4.lt k hk).1) hz4)
          have hz5 : w.heap.size ≤ w5.heap.size := hbb5.size
          obtain ⟨ak5, nk5, ck5, rfl⟩ := own_sl g1
          have hwn5 := hws5.wn
          obtain ⟨aw, nw, cw, rfl⟩ := own_sl hwn5
          have hr5 := run_str (P := Tryd.prog) Tryd.underlying37 Tryd.underlying5 Tryd.underlying9 hws5.outLast.rd
          have hl5 : (K.map fun y => Value.string (strOf y.2)).length < 1000000000000 := by simp; omega
          have HWS5 := Lib.hid hws5
          have HBB5 := Lib.hid hbb5
          clear g1 g2 g3 g4 e5 f5 hws5 hbb5 hkp4 HWS4 HBB4
          go_wp2_with (at_builtin; with_reducible refine ap1' elStrW rfl hwn5 hl5 hz5 rfl _ _ rfl rfl rfl ?_)
          intro v6 w6 g1 g2 g3 g4
          have e6 := (Eff.refl (fun k => (Value.slice aw nw cw).ownBlock = some k) w5).grown g4 (fun i hi _ => hi)
          have hws6 := HWS5.out.want g1 e6
          have hbb6 := HBB5.out.trans (e6.below (fun k hk => (hwn5.lt k hk).1) hz5)
          obtain ⟨aw6, nw6, cw6, rfl⟩ := own_sl g1
          have HWS6 := Lib.hid hws6
          have HBB6 := Lib.hid hbb6
          clear g1 g2 g3 g4 e6 hws6 hbb6 hwn5 HWS5 HBB5 hr5
          go_wp2
          go_roundw
          case rel =>
            refine ⟨i + 1, v, x, h, vb4, _, _, K ++ [(.slice a3 (h sec).length c3, h sec)], by go_num, by omega, rfl, rfl, ?_, HSK.out, by simp; omega, fun y hy => ?_, HBB6.out⟩
            · rw [List.map_append, List.map_append]; exact HWS6.out
            · rcases List.mem_append.1 hy with hy | hy
              · exact HKB.out y hy
              · rw [List.mem_singleton.1 hy]; show (h sec).length ≤ _; omega
          case measure => simp [intOf]; omega
        by_cases h13 : kd = 13
        · have t1 : (kd == 11) = false := by simpa using h11
          have t2 : (kd == 12) = false := by simpa using h12
          have t3 : (kd == 13) = true := by simpa using h13
          have C1 := wreset_any _ _ _ _ _ (HWS1.out.wr sec)
          clear h11 h12 h13
          go_wp2_with fail
          refine C1.mono ?_
          rintro e w3 ⟨rfl, hw3, hr3⟩
          have hbb3 := HBB.out.trans (hr3.below (HWS1.out.wr sec) hz2)
          have hws3 := HWS1.out.wrote hw3 hr3
          have hz3 : w.heap.size ≤ w3.heap.size := hbb3.size
          have ho4 := own_empty w3 w.heap.size 5 hz3
          have hws4 := hws3.held sec (bs' := []) ho4 ((Eff.refl _ _).alloc _) (fun q hq => .inr (by simp [Value.ownBlock] at hq; omega))
          have hph4 : (w3.alloc (.cells #[] 5)).heap[ph]? = some (.cells #[x false, x true] 37 (0, 0)) := (hws3.alloc _).hh
          have hfr := blk_frozen hph4 k
          have hbb4 : Below w.heap.size w ((w3.alloc (.cells #[] 5)).setCell ⟨ph, sec.toNat, none⟩ (.slice (some ⟨w3.heap.size, 0, none⟩) 0 0)) := (hbb3.alloc hz3 _).setCell (by exact hws3.hp) _
          have hph5 : (w3.alloc (.cells #[] 5)).cell? ⟨ph, k, none⟩ = some (.slice ax (h sec).length cx) := by
            rw [blk_cell hph4 k, ← HK.out, ← HXS.out]; cases sec <;> rfl
          rw [HK.out] at hws4 hbb4
          have HWS4 := Lib.hid hws4
          have HBB4 := Lib.hid hbb4
          clear C1 hw3 hr3 hbb3 hws3 hws4 hbb4 ho4 hph hax hph4
          go_wp2
          go_roundw
          case rel => exact ⟨i + 1, _, _, _, vb, _, _, K, by go_num, by omega, rfl, rfl, HWS4.out, HZR.out sec, by omega, HKB.out, HBB4.out⟩
          case measure => simp [intOf]; omega
        · have t1 : (kd == 11) = false := by simpa using h11
          have t2 : (kd == 12) = false := by simpa using h12
          have t3 : (kd == 13) = false := by simpa using h13
          have C1 : Calls Tryd.prog 20 #[.pointer (some ⟨p sec, 0, none⟩), .agg #[.int .i64 kd, .bool sec, .int .i64 n, .int .u64 u, .int .i64 ii, .slice ba bn bc, .string os, .slice la ln lc]] (wr.alloc (.cells #[.int .i64 kd, .bool sec, .int .i64 n, .int .u64 u, .int .i64 ii, .slice ba bn bc, .string os, .slice la ln lc] 46)) _ :=
            pw_any w _ w.heap.size (p sec) (v sec) (h sec) (HWS1.out.wr sec) (Nat.le_refl _) hz2 HBB.out (by omega) ⟨kd, sec, n, u, ii, ba, bn, bc, os, la, ln, lc⟩ bl l HOI.out EA HS.out
          clear h11 h12 h13
          go_wp2_with fail
          refine C1.mono ?_
          rintro e w3 ⟨nb, hnb, va, v3, rfl, hoa, hw3, hr3⟩
          have hbb3 := HBB.out.trans (hr3.below (HWS1.out.wr sec) hz2)
          have hws3 := HWS1.out.wrote hw3 hr3
          have hz3 : w.heap.size ≤ w3.heap.size := hbb3.size
          have hx3 := hws3.ownX sec
          rw [HXS.out] at hx3
          have hph3 : w3.cell? ⟨ph, k, none⟩ = some (.slice ax (h sec).length cx) := by
            rw [blk_cell hws3.hh k, ← HK.out, ← HXS.out]; cases sec <;> rfl
          obtain ⟨aa, ca, rfl⟩ := own_slice hoa
          have hrd := hoa.rd
          have hpt := HPT.out nb hnb sec
          have hnl : nb.length ≤ 100000000 := by
            have h1 := hpt.bound hwg sec
            rw [upd_same, List.length_append] at h1; omega
          have hll : (bytesV (h sec)).length + (bytesV nb).length < 1000000000001 := by rw [bytesV_length, bytesV_length]; omega
          have HWS3 := Lib.hid hws3
          have HBB3 := Lib.hid hbb3
          have HPT2 := Lib.hid hpt
          clear C1 hw3 hr3 hbb3 hws3 hoa hph hax hpt hnb
          go_wp2_with (at_builtin; with_reducible refine apN elBytes hx3 hrd (bytesV_one _) hll hz3 rfl _ _ rfl rfl rfl ?_)
          intro v4 w4 g1 g2 g3 g4
          have e4 := (Eff.refl (fun k => (Value.slice ax (h sec).length cx).ownBlock = some k) w3).grown g4 (fun i hi _ => hi)
          have f4 : Fresh w3.heap.size (Value.slice ax (h sec).length cx) v4 := fun k hk => by
            rcases g3 with g3 | g3
            · rw [g3] at hk; exact .inl hk
            · rw [g3.1] at hk; injection hk with hk; exact .inr (by omega)
          have hph4 : w4.heap[ph]? = some (.cells #[x false, x true] 37 (0, 0)) := (e4.block _ (lt_of_heap HWS3.out.hh) (hx3.ne_type HWS3.out.hh (by decide))).trans HWS3.out.hh
          have hfr := blk_frozen hph4 k
          have hbb4 := (HBB3.out.trans (e4.below (fun k hk => (hx3.lt k hk).1) hz3)).setCell (p := ⟨ph, sec.toNat, none⟩) (by exact HWS3.out.hp) v4
          have hph5 : w4.cell? ⟨ph, k, none⟩ = some (.slice ax (h sec).length cx) := by
            rw [blk_cell hph4 k, ← HK.out, ← HXS.out]; cases sec <;> rfl
          rw [← HXS.out] at e4 f4
          have hws4 := HWS3.out.held sec (bs' := h sec ++ nb) (own_to g1 (bytesV_append _ _).symm) e4 f4
          rw [HK.out] at hws4 hbb4
          obtain ⟨a4, n4, c4, rfl⟩ := own_sl g1
          have HWS4 := Lib.hid hws4
          have HBB4 := Lib.hid hbb4
          clear g1 g2 g3 g4 e4 f4 hws4 hbb4 hph4 hx3 hrd hll hph3
          go_wp2
          go_roundw
          case rel => exact ⟨i + 1, _, _, _, vb, _, _, K, by go_num, by omega, rfl, rfl, HWS4.out, HPT2.out, by omega, HKB.out, HBB4.out⟩
          case measure => simp [intOf]; omega
    · obtain rfl : i = ops.length := by omega
      have hkn : K.length ≤ 1048576 := by omega
      have hbnd := hhl.bound hwg
      have hkp := hws.kp
      have hwn := hws.wn
      obtain ⟨ak, ck, hvk⟩ := own_slice hkp
      rw [List.length_map] at hvk
      subst hvk
      obtain ⟨aw, cw, hvw⟩ := own_slice hwn
      rw [List.length_map] at hvw
      subst hvw
      have HWS := Lib.hid hws
      have HB := Lib.hid hb
      have HBD := Lib.hid hbnd
      have HKB := Lib.hid hkb
      clear hws hb hbnd hkb hhl hkl hkp hwn hlt hsz
      go_wp2
      go_loopw [112] (fun s wx => ∃ j : Nat, s = .int .i64 j ∧ j ≤ K.length ∧ WS wx w.heap.size pk ph p v x h h vb (.slice ak K.length ck) (.slice aw K.length cw) (K.map (·.1)) (K.map (·.1)) (K.map fun y => .string (strOf y.2)) K ∧ Below w.heap.size w wx) (fun s _ => K.length - (intOf s).toNat)
      case atStart => exact ⟨0, rfl, Nat.zero_le _, HWS.out, HB.out⟩
      case round =>
        clear HWS HB
        rename_i wx
        obtain ⟨j, rfl, hj, hws, hb⟩ := hrel
        by_cases hlt : j < K.length
        · have hkp := hws.kp
          have hwn := hws.wn
          obtain ⟨gk, rfl⟩ := hkp.someAt (by omega)
          obtain ⟨gw, rfl⟩ := hwn.someAt (by omega)
          have hKj : K[j]? = some K[j] := List.getElem?_eq_getElem hlt
          have hoj := hws.outAt hKj
          have d1 := hkp.get (j := j) (by rw [List.getElem?_map, hKj]; rfl)
          have d2 := hwn.get (j := j) (by rw [List.getElem?_map, hKj]; rfl)
          obtain ⟨y, hy⟩ : ∃ y, K[j] = y := ⟨_, rfl⟩
          rw [hy] at hoj d1 d2
          obtain ⟨yv, yb⟩ := y
          simp only at hoj d1 d2
          obtain ⟨ay, cy, rfl⟩ := own_slice hoj
          have r1 := fun d : Nat => run_str (P := Tryd.prog) Tryd.underlying37 Tryd.underlying5 Tryd.underlying9 (hoj.drewN d).rd
          have HWS := Lib.hid hws
          have HB := Lib.hid hb
          clear hws hb hkp hwn hoj hKj hy
          go_wp2
          go_quiet (fail)
          go_wp2
          go_roundw
          case rel => exact ⟨j + 1, by go_num, by omega, HWS.out.drewN _, below_drewN HB.out _⟩
          case measure => simp [intOf]; omega
        · obtain rfl : j = K.length := by omega
          have hsz := hb.size
          have hh0 := HBD.out false
          have hh1 := HBD.out true
          have C1 := wbytes_any _ _ _ _ _ (hws.wr false) (by omega)
          have HWS := Lib.hid hws
          have HB := Lib.hid hb
          clear hws hb hlt
          go_wp2_with fail
          refine C1.mono ?_
          rintro e w3 ⟨v3, rfl, ho3, hb3⟩
          clear C1
          have hws3 := HWS.out.out hb3 hsz ho3
          have hbb3 := HB.out.trans (hb3.mono hsz)
          have hz3 : w.heap.size ≤ w3.heap.size := hbb3.size
          obtain ⟨a3, c3, rfl⟩ := own_slice ho3
          rw [bytesV_length] at hws3 ⊢
          have C2 := wbytes_any _ _ _ _ _ (hws3.wr false) (by omega)
          have HWS3 := Lib.hid hws3
          have HB3 := Lib.hid hbb3
          clear hws3 hbb3 hb3 ho3 HWS HB
          go_wp2_with fail
          refine C2.mono ?_
          rintro e w4 ⟨v4, rfl, ho4, hb4⟩
          clear C2
          have hws4 := HWS3.out.out hb4 hz3 ho4
          have hbb4 := HB3.out.trans (hb4.mono hz3)
          have hz4 : w.heap.size ≤ w4.heap.size := hbb4.size
          obtain ⟨a4, c4, rfl⟩ := own_slice ho4
          rw [bytesV_length] at hws4 ⊢
          have hx0 := hws4.ownX false
          have hx1 := hws4.ownX true
          have p0 : w4.cell? ⟨ph, 0, none⟩ = some (x false) := by rw [blk_cell hws4.hh 0]; rfl
          have p1 : w4.cell? ⟨ph, 1, none⟩ = some (x true) := by rw [blk_cell hws4.hh 1]; rfl
          obtain ⟨ax, cx, hxs⟩ := own_slice hx0
          obtain ⟨ay, cy, hys⟩ := own_slice hx1
          rw [bytesV_length] at hxs hys
          rw [hxs] at p0 hx0
          rw [hys] at p1 hx1
          have r3 := fun d : Nat => run_str (P := Tryd.prog) Tryd.underlying37 Tryd.underlying5 Tryd.underlying9 ((hws4.outAt (i := K.length) (y := (.slice a3 (h false).length c3, h false)) (by simp)).drewN d).rd
          have r4 := fun d : Nat => run_str (P := Tryd.prog) Tryd.underlying37 Tryd.underlying5 Tryd.underlying9 (hws4.outLast.drewN d).rd
          have rx := fun d : Nat => run_str (P := Tryd.prog) Tryd.underlying37 Tryd.underlying5 Tryd.underlying9 (hx0.drewN d).rd
          have C3 := fun d : Nat => wlen_any _ _ _ _ _ ((hws4.wr true).drewN d)
          have C4 := fun d : Nat => bkB_f (w4.drewN d) _ _ _ _ _ _ (hws4.drewN d).bk hz4 (by simp; omega) a3 (h false).length c3
          have HWS4 := Lib.hid hws4
          have HB4 := Lib.hid hbb4
          have HC3 := Lib.hid C3
          have HC4 := Lib.hid C4
          have HXS := Lib.hid hxs
          have HYS := Lib.hid hys
          clear hws4 hbb4 hb4 ho4 C3 C4 HWS3 HB3 hx0 hx1 hxs hys
          go_wp2
          go_quiet ((go_at_call 14; exact quiet_leftN (HC3.out _)))
          clear r3 r4 rx p0 p1 HC3
          go_wp2_with fail
          refine (HC4.out _).mono ?_
          rintro e w5 ⟨rfl, vb5, hk5, e5, f5⟩
          clear HC4
          have hws5 := (HWS4.out.drewN _).book hk5 e5 f5
          have hbb5 := (below_drewN HB4.out _).trans ((HWS4.out.drewN _).bk.below e5 hz4)
          have hz5 : w.heap.size ≤ w5.heap.size := hbb5.size
          have C5 := bkB_f w5 _ _ _ _ _ _ hws5.bk hz5 (by simp; omega) a4 (h false).length c4
          have HWS5 := Lib.hid hws5
          have HB5 := Lib.hid hbb5
          clear hk5 e5 f5 hws5 hbb5 HWS4 HB4
          go_wp2_with fail
          refine C5.mono ?_
          rintro e w6 ⟨rfl, vb6, hk6, e6, f6⟩
          clear C5
          have hws6 := HWS5.out.book hk6 e6 f6
          have hbb6 := HB5.out.trans (HWS5.out.bk.below e6 hz5)
          have hz6 : w.heap.size ≤ w6.heap.size := hbb6.size
          obtain ⟨CB, hB1, hB2⟩ := hws6.recd (fun y hy => by
            rcases List.mem_append.1 hy with hy | hy
            · rcases List.mem_append.1 hy with hy | hy
              · exact HKB.out y hy
              · rw [List.mem_singleton.1 hy]; show (h false).length ≤ _; omega
            · rw [List.mem_singleton.1 hy]; show (h false).length ≤ _; omega)
          have C6 := un_any w6 _ _ _ _ _ _ CB (fun _ => []) hws6.bk (by rw [List.map_append, List.map_append] at hB1; exact hB1) (rec_nil _ _ _) (by simp; omega) (by simp) hB2 (by simp)
          have HWS6 := Lib.hid hws6
          have HB6 := Lib.hid hbb6
          clear hk6 e6 f6 hws6 hbb6 HWS5 HB5 hB1 hB2
          go_wp2_with fail
          refine C6.mono ?_
          rintro e w7 ⟨rfl, e7⟩
          clear C6
          have e7' : Eff (fun k => BlocksOf ((K ++ [((.slice a3 (h false).length c3 : Value), h false)] ++ [((.slice a4 (h false).length c4 : Value), h false)]).map (·.1)) k ∨ BlocksOf [] k) w6 w7 := by
            rw [List.map_append, List.map_append]; exact e7
          obtain ⟨hw7, hh7, hx7⟩ := HWS6.out.last e7'
          have hbb7 := HB6.out.trans (e7'.below (B := w.heap.size) HWS6.out.outLow hz6)
          have c0 : w7.cell? ⟨ph, 0, none⟩ = some (x false) := by rw [blk_cell hh7 0]; rfl
          have c1 : w7.cell? ⟨ph, 1, none⟩ = some (x true) := by rw [blk_cell hh7 1]; rfl
          have hx0 := hx7 false
          have hx1 := hx7 true
          rw [HXS.out] at c0 hx0
          rw [HYS.out] at c1 hx1
          have hcw : ∀ W, Below w7.heap.size w7 W → W.cell? ⟨ph, 0, none⟩ = some (.slice ax (h false).length cx) ∧ W.cell? ⟨ph, 1, none⟩ = some (.slice ay (h true).length cy) := fun W hB =>
            ⟨(hB.cell (World.block_lt_of_cell? w7 _ c0)).trans c0, (hB.cell (World.block_lt_of_cell? w7 _ c1)).trans c1⟩
          have K0 : ∀ (b : Bool) W, (W.cell? ⟨ph, 0, none⟩ = some (.slice ax (h false).length cx) ∧ W.cell? ⟨ph, 1, none⟩ = some (.slice ay (h true).length cy) ∧ Below w7.heap.size w7 W) →
              Calls Tryd.prog 18 #[.pointer (some ⟨p b, 0, none⟩)] W fun e W' => ∃ a n c, e = .returned (.slice a n c) ∧ (W'.cell? ⟨ph, 0, none⟩ = some (.slice ax (h false).length cx) ∧ W'.cell? ⟨ph, 1, none⟩ = some (.slice ay (h true).length cy) ∧ Below w7.heap.size w7 W') ∧ Below W'.heap.size W' W' ∧ (∀ W2, Below W'.heap.size W' W2 → (convert 37 9 (.slice a n c)).run Tryd.prog W2 = .ok (.string (strOf (h b))) W2) := by
            rintro b W ⟨_, _, hB⟩
            refine (wbytes_any W _ _ _ _ ((hw7 b).of_below hB) (by have := HBD.out b; omega)).mono ?_
            rintro e W' ⟨v', rfl, ho, hb⟩
            obtain ⟨a, n, c, rfl⟩ := own_sl ho
            have hB' := hB.trans (hb.mono hB.size)
            exact ⟨a, n, c, rfl, ⟨(hcw W' hB').1, (hcw W' hB').2, hB'⟩, Below.refl _ _, fun W2 hb2 => run_str Tryd.underlying37 Tryd.underlying5 Tryd.underlying9 (ho.below hb2 (Nat.le_refl _)).rd⟩
          have RX : ∀ W2, Below w7.heap.size w7 W2 → (convert 37 9 (.slice ax (h false).length cx)).run Tryd.prog W2 = .ok (.string (strOf (h false))) W2 := fun W2 hb2 => run_str Tryd.underlying37 Tryd.underlying5 Tryd.underlying9 (hx0.below hb2 (Nat.le_refl _)).rd
          have RY : ∀ W2, Below w7.heap.size w7 W2 → (convert 37 9 (.slice ay (h true).length cy)).run Tryd.prog W2 = .ok (.string (strOf (h true))) W2 := fun W2 hb2 => run_str Tryd.underlying37 Tryd.underlying5 Tryd.underlying9 (hx1.below hb2 (Nat.le_refl _)).rd
          have HK0 := Lib.hid (K0 false)
          have HK1 := Lib.hid (K0 true)
          have hS : w7.drew.cell? ⟨ph, 0, none⟩ = some (.slice ax (h false).length cx) ∧ w7.drew.cell? ⟨ph, 1, none⟩ = some (.slice ay (h true).length cy) ∧ Below w7.heap.size w7 w7.drew := ⟨c0, c1, below_drewN (Below.refl _ _) 1⟩
          have HB7 := Lib.hid hbb7
          clear e7 e7' hw7 hh7 hx7 hbb7 hx0 hx1 hcw K0 c0 c1 HWS6 HB6 HKB HBD
          go_wp2
          go_region_held (fun w' => w'.cell? ⟨ph, 0, none⟩ = some (.slice ax (h false).length cx) ∧ w'.cell? ⟨ph, 1, none⟩ = some (.slice ay (h true).length cy) ∧ Below w7.heap.size w7 w') (assumption)
            (first | (go_at_call 18; refine (HK0.out _ (by assumption)).mono ?_; rintro e w' ⟨a', n', c', rfl, hS', hb', hk'⟩) | (go_at_call 18; refine (HK1.out _ (by assumption)).mono ?_; rintro e w' ⟨a', n', c', rfl, hS', hb', hk'⟩))
          all_goals
            go_wp2
            go_ret
            exact ⟨rfl, HB7.out.trans ((by first | exact hS'.2.2 | (rename_i h; exact h.2.2) : Below w7.heap.size w7 _).mono HB7.out.size)⟩
end Go.Proofs.YtmmflhippbegaaaDoor
