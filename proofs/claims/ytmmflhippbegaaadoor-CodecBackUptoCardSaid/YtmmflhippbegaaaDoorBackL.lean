/- The walk of the law CodecBack. -/
import Derived.Test.YtmmflhippbegaaaDoorPrefix
import Derived.Test.YtmmflhippbegaaaDoorRow8
namespace Go.Proofs.YtmmflhippbegaaaDoor
set_option linter.unusedVariables false
open Go.ChangeShapes Go.WideShapes Go.ChangeAt Go.RowKit

/-- What has been taken of the first i of ops: all of it may be put, and it weighs no more than they. -/
structure Took (ops : List OpV) (LL : OpV → List Int) (i : Nat) (ps : List OpV) : Prop where
  mem : ∀ o ∈ ps, o ∈ ops ∧ wOk o (LL o)
  len : ps.length ≤ i
  wg : (ps.map wgt).sum ≤ ((ops.take i).map wgt).sum
theorem wg_take (ops : List OpV) (i : Nat) : ((ops.take i).map wgt).sum ≤ (ops.map wgt).sum := by
  conv => rhs; rw [← List.take_append_drop i ops]
  rw [List.map_append, List.sum_append]; omega
theorem take_snoc {ops : List OpV} {i : Nat} (h : i < ops.length) : ops.take (i + 1) = ops.take i ++ [ops[i]] := by rw [List.take_add_one, List.getElem?_eq_getElem h]; rfl
theorem Took.skip {ops : List OpV} {LL : OpV → List Int} {i : Nat} {ps : List OpV} (h : Took ops LL i ps) (hi : i < ops.length) : Took ops LL (i + 1) ps :=
  ⟨h.mem, Nat.le_succ_of_le h.len, Nat.le_trans h.wg (by rw [take_snoc hi, List.map_append, List.sum_append]; omega)⟩
theorem Took.take {ops : List OpV} {LL : OpV → List Int} {i : Nat} {ps : List OpV} (h : Took ops LL i ps) (hi : i < ops.length) (hok : wOk ops[i] (LL ops[i])) : Took ops LL (i + 1) (ps ++ [ops[i]]) :=
  ⟨fun o ho => (List.mem_append.1 ho).elim (h.mem o) (fun h2 => by rw [List.mem_singleton.1 h2]; exact ⟨List.getElem_mem hi, hok⟩), by have := h.len; simp; omega,
    by have := h.wg; rw [take_snoc hi]; simp only [List.map_append, List.sum_append]; omega⟩
theorem wires_len {w : World} {B0 : Nat} {ops : List OpV} {BL : OpV → List UInt8} {LL : OpV → List Int} (hop : ∀ o ∈ ops, OpRd w B0 o (BL o) (LL o)) : ∀ (ps : List OpV), (∀ o ∈ ps, o ∈ ops ∧ wOk o (LL o)) → (ps.flatMap fun o => wire o (BL o) (LL o)).length ≤ 20 * (ps.map wgt).sum
  | [], _ => by simp
  | o :: ps, h => by
    have h1 := wires_len hop ps (fun x hx => h x (List.mem_cons_of_mem _ hx))
    have h2 := h o List.mem_cons_self
    have h3 := wire_wgt (hop o h2.1) h2.2
    rw [List.flatMap_cons, List.length_append, List.map_cons, List.sum_cons]; omega
theorem flat_split (ps : List OpV) (f : OpV → List UInt8) (j : Nat) (h : j < ps.length) : ps.flatMap f = (ps.take j).flatMap f ++ (f ps[j] ++ (ps.drop (j + 1)).flatMap f) := by
  conv => lhs; rw [← List.take_append_drop j ps, List.drop_eq_getElem_cons h]
  rw [List.flatMap_append, List.flatMap_cons]
theorem Wr.low {w : World} {B B0 p : Nat} {v : Value} {bs : List UInt8} (h : Wr w B p v bs) (hB : B0 ≤ B) : Wr w B0 p v bs := ⟨h.blk, Nat.le_trans hB h.hp, own_base h.own hB⟩

set_option maxRecDepth 100000 in
set_option maxHeartbeats 2000000 in
theorem back_walk (w : World) (a : Option Addr) (m c : Nat) (ops : List OpV) (hops : RdOps w a m ops) (hol : ops.length ≤ 1048576) (BL : OpV → List UInt8) (LL : OpV → List Int) (hop : ∀ o ∈ ops, OpRd w w.heap.size o (BL o) (LL o)) (hwg : (ops.map wgt).sum ≤ 1048576)
    (EA : Nat → Addr) (hE : RErr w EA) :
    Calls Tryd.prog 9 #[.slice a m c] w fun e w' => e = .returned (.bool true) ∧ Below w.heap.size w w' := by
  have hG : GLow w.heap.size := hE.lt
  obtain rfl := hops.1
  have C0 := lives_any w (errV EA) hE.s hE.v
  have HOPS := Lib.hid hops
  have HG := Lib.hid hG
  have HE := Lib.hid hE
  have HOP := Lib.hid hop
  clear hops hG hE hop
  go_enter Tryd.func9, Tryd.ntmps9
  go_wp2_with fail
  refine C0.mono ?_
  rintro e w1 ⟨rfl, hb1⟩
  clear C0
  go_wp2_with fail
  refine (nw_any w1).mono ?_
  rintro e w2 ⟨rfl, hw2⟩
  have hb2 : Below w.heap.size w w2 := by rw [hw2]; exact hb1.trans ((Below.refl _ _).alloc hb1.size _)
  have hwr2 : Wr w2 w.heap.size w1.heap.size (.slice none 0 0) [] := by rw [hw2]; exact (wr_new w1).low hb1.size
  have hz2 : w.heap.size ≤ w2.heap.size := hb2.size
  have hr2 := row8_empty w2 w.heap.size hz2
  have hb3 : Below w.heap.size w (w2.alloc (.cells #[] 46)) := hb2.alloc hz2 _
  have hwr3 : Wr (w2.alloc (.cells #[] 46)) w.heap.size w1.heap.size (.slice none 0 0) [] := hwr2.eff (F := fun _ => False) ((Eff.refl _ _).alloc _) (fun _ _ f => f)
  obtain ⟨pw, hpw⟩ : ∃ pw, w1.heap.size = pw := ⟨_, rfl⟩
  rw [hpw] at hwr3 ⊢
  have HW3 := Lib.hid hwr3
  have HB3 := Lib.hid hb3
  have HR2 := Lib.hid hr2
  clear hw2 hb2 hwr2 hwr3 hpw hb1 hb3 hr2
  go_wp2
  go_loopw [5, 24] (fun s5 s24 wr => ∃ (i : Nat) (ps : List OpV) (A : Option Addr) (C : Nat) (v : Value), s24 = .int .i64 i ∧ i ≤ ops.length ∧ s5 = .slice A ps.length C ∧ Row8 wr w.heap.size (.slice A ps.length C) ps ∧ Took ops LL i ps ∧ Wr wr w.heap.size pw v (ps.flatMap fun o => wire o (BL o) (LL o)) ∧ Below w.heap.size w wr) (fun _ s _ => ops.length - (intOf s).toNat)
  case atStart => exact ⟨0, [], _, _, _, rfl, Nat.zero_le _, rfl, HR2.out, ⟨fun o h => (by cases h), Nat.le_refl _, by simp⟩, HW3.out, HB3.out⟩
  case round =>
    clear HW3 HB3 HR2
    obtain ⟨i, ps, A, C, v, rfl, hi, rfl, hrow, htk, hw, hb⟩ := hrel
    have hsz := hb.size
    have hlenW := Nat.le_trans (wires_len HOP.out ps htk.mem) (Nat.mul_le_mul_left 20 (Nat.le_trans htk.wg (Nat.le_trans (wg_take ops i) hwg)))
    by_cases hlt : i < ops.length
    · obtain ⟨_, hoo⟩ := HOPS.out.below hb (Nat.le_refl _)
      obtain ⟨bb, oo, rfl, hcells⟩ := hoo (by omega)
      have hopi := HOP.out ops[i] (List.getElem_mem hlt)
      have hc := hcells i hlt
      have htskip := htk.skip hlt
      have httake := htk.take hlt
      obtain ⟨op, hopq⟩ : ∃ op, ops[i] = op := ⟨_, rfl⟩
      rw [hopq] at hc hopi httake
      obtain ⟨bl, hbl⟩ : ∃ bl, BL op = bl := ⟨_, rfl⟩
      obtain ⟨l, hll⟩ : ∃ l, LL op = l := ⟨_, rfl⟩
      rw [hbl, hll] at hopi
      rw [hll] at httake
      obtain ⟨W, hWW⟩ : ∃ W, (ps.flatMap fun o => wire o (BL o) (LL o)) = W := ⟨_, rfl⟩
      rw [hWW] at hw hlenW
      have hnext : wOk op l → ((ps ++ [op]).flatMap fun o => wire o (BL o) (LL o)) = W ++ wire op bl l := fun _ => by
        rw [List.flatMap_append, hWW]; simp [hbl, hll]
      obtain ⟨kd, sec, n, u, ii, ba, bn, bc, os, la, ln, lc⟩ := op
      have d0 := hc 0 _ rfl
      have d1 := hc 1 _ rfl
      have d2 := hc 2 _ rfl
      have d3 := hc 3 _ rfl
      have d4 := hc 4 _ rfl
      have d5 := hc 5 _ rfl
      have d6 := hc 6 _ rfl
      have d7 := hc 7 _ rfl
      rw [Nat.add_zero] at d0
      simp only at d0 d1 d2 d3 d4 d5 d6 d7
      obtain ⟨o1, ho1⟩ : ∃ o1, o1 = Obj.cells #[.int .i64 kd, .bool sec, .int .i64 n, .int .u64 u, .int .i64 ii, .slice ba bn bc, .string os, .slice la ln lc] 46 := ⟨_, rfl⟩
      have hwb : Wr (wr.alloc o1) w.heap.size pw v W := hw.eff (F := fun _ => False) ((Eff.refl _ _).alloc _) (fun _ _ f => f)
      have hbb : Below w.heap.size w (wr.alloc o1) := hb.alloc hb.size _
      have hrb : Row8 (wr.alloc o1) w.heap.size (.slice A ps.length C) ps := hrow.eff (F := fun _ => False) ((Eff.refl _ _).alloc _) (fun _ _ f => f)
      have hbx : Cells8 (wr.alloc o1) wr.heap.size (.int .i64 kd) (.bool sec) (.int .i64 n) (.int .u64 u) (.int .i64 ii) (.slice ba bn bc) (.string os) (.slice la ln lc) := by
        subst ho1; exact Cells8.of (heap_alloc_new wr _)
      have hnb : ¬ WrB pw v wr.heap.size := fun h => by have := (hw.ge _ h).2; omega
      have hnr := hrb.ne_wr hwb
      have C1 := wlen_any (wr.alloc o1) _ _ _ _ hwb
      have C2 := write_any (wr.alloc o1) w.heap.size pw v W hwb (Nat.le_trans hsz (by simp)) (by omega) w.heap.size (Nat.le_refl _) _ bl l (hopi.below hbb) EA (HE.out.eff (Eff.of_below hbb (fun _ => False)) HG.out (fun _ f => f.elim)) HG.out
      have hz1 : (wr.alloc o1).heap.size = wr.heap.size + 1 := by simp
      rw [ho1] at C1 C2
      have HO := Lib.hid ho1
      have HTS := Lib.hid htskip
      have HTT := Lib.hid httake
      have HNX := Lib.hid hnext
      have HWW := Lib.hid hWW
      have HWB := Lib.hid hwb
      have HBB := Lib.hid hbb
      have HRB := Lib.hid hrb
      have HBX := Lib.hid hbx
      have HNR := Lib.hid hnr
      have HOQ := Lib.hid hopq
      clear ho1 htskip httake hnext hWW hwb hbb hrb hbx hnr hc hcells hoo hopi hw hrow htk hb hbl hll hopq
      go_wp2_with fail
      refine C1.mono ?_
      rintro e w3 ⟨rfl, rfl⟩
      clear C1
      go_wp2_with fail
      refine C2.mono ?_
      rintro e w3 ⟨hyes, hno⟩
      rw [← HO.out] at hyes hno
      clear C2 d0 d1 d2 d3 d4 d5 d6 d7
      by_cases hok : wOk ⟨kd, sec, n, u, ii, ba, bn, bc, os, la, ln, lc⟩ l
      · obtain ⟨rfl, v3, hw3, hwr3⟩ := hyes hok
        have hx3 : Cells8 w3 wr.heap.size (.int .i64 kd) (.bool sec) (.int .i64 n) (.int .u64 u) (.int .i64 ii) (.slice ba bn bc) (.string os) (.slice la ln lc) := HBX.out.eff hwr3.eff hnb
        have hr3 := HRB.out.eff hwr3.eff HNR.out
        have hb3 := HBB.out.trans (hwr3.below HWB.out (by omega))
        have hok' := HTT.out hok
        have hnx := HNX.out hok
        have hpl : ps.length ≤ 1000000000 := by have := HTS.out.len; omega
        have hz3 : w.heap.size ≤ w3.heap.size := hb3.size
        obtain ⟨d0, d1, d2, d3, d4, d5, d6, d7⟩ := hx3
        have HNX3 := Lib.hid hnx
        have HTT3 := Lib.hid hok'
        have HB3 := Lib.hid hb3
        have HW3 := Lib.hid hw3
        have HNR3 := Lib.hid (hr3.ne_wr hw3)
        have HLT3 := Lib.hid hr3.lt
        clear hyes hno hok hwr3 hok' hnx hb3 hw3
        go_upto_region 16 with fail
        go_wp2_with (at_builtin; with_reducible refine ap8 hr3 hpl hz3 rfl _ _ rfl rfl rfl ?_)
        intro v4 w4 hr4 hg4
        have he4 : Eff (fun k => (Value.slice A ps.length C).ownBlock = some k) w3 w4 := (Eff.refl _ _).grown hg4 (fun i hi _ => hi)
        have hw4 := HW3.out.eff he4 (fun k hk hF => HNR3.out k hF hk)
        have hb4 := HB3.out.trans (he4.below (B := w.heap.size) (fun k hk => (HLT3.out k hk).1) hz3)
        obtain ⟨A4, C4, rfl⟩ := hr4.sl
        have HR4 := Lib.hid hr4
        have HW4 := Lib.hid hw4
        have HB4 := Lib.hid hb4
        clear hr4 hg4 he4 hw4 hb4 hr3 d0 d1 d2 d3 d4 d5 d6 d7
        go_wp2
        go_roundw
        case rel => exact ⟨i + 1, ps ++ [⟨kd, sec, n, u, ii, ba, bn, bc, os, la, ln, lc⟩], A4, C4, v3, by go_num, by omega, rfl, HR4.out, HTT3.out, by rw [HNX3.out]; exact HW4.out, HB4.out⟩
        case measure => simp [intOf]; omega
      · obtain ⟨rfl, hw3, hwr3⟩ := hno hok
        have hb3 := HBB.out.trans (hwr3.below HWB.out (by omega))
        have hr3 := HRB.out.eff hwr3.eff HNR.out
        have C4 := wlen_any w3 _ _ _ _ hw3
        have HB3 := Lib.hid hb3
        have HR3 := Lib.hid hr3
        have HW3 := Lib.hid hw3
        clear hyes hno hok hwr3 hb3 hr3 hw3
        go_wp2_with fail
        refine C4.mono ?_
        rintro e w4 ⟨rfl, rfl⟩
        clear C4
        go_wp2
        go_roundw
        case rel => exact ⟨i + 1, ps, A, C, v, by go_num, by omega, rfl, HR3.out, HTS.out, by rw [HWW.out]; exact HW3.out, HB3.out⟩
        case measure => simp [intOf]; omega
    · obtain rfl : i = ops.length := by omega
      obtain ⟨W, hWW⟩ : ∃ W, (ps.flatMap fun o => wire o (BL o) (LL o)) = W := ⟨_, rfl⟩
      rw [hWW] at hw hlenW
      have C1 := wbytes_any wr _ _ _ _ hw (by omega)
      have HWW := Lib.hid hWW
      have HW := Lib.hid hw
      have HB := Lib.hid hb
      have HROW := Lib.hid hrow
      have HTK := Lib.hid htk
      have hpl : ps.length ≤ 1048576 := by have := htk.len; omega
      clear hWW hw hb hrow htk
      go_wp2_with fail
      refine C1.mono ?_
      rintro e w3 ⟨v3, rfl, ho3, hb3⟩
      clear C1
      obtain ⟨a3, n3, c3, rfl⟩ := own_sl ho3
      obtain rfl : n3 = W.length := by have := ho3.len; rw [bytesV_length] at this; exact this
      have C2 := nr_any w3 a3 W.length c3 W ho3.rd (by omega)
      have hz3 := hb3.size
      have hw3 := HW.out.of_below hb3
      have hrow3 := HROW.out.eff (Eff.of_below hb3 (fun _ => False)) (fun _ _ f => f)
      have hbb3 := HB.out.trans (hb3.mono hsz)
      have HW3 := Lib.hid hw3
      have HROW3 := Lib.hid hrow3
      have HB3 := Lib.hid hbb3
      clear hw3 hrow3 hbb3 hb3 ho3
      go_wp2_with fail
      refine C2.mono ?_
      rintro e w4 ⟨p, v4, rfl, hr4, hb4⟩
      clear C2
      have hpp := hr4.hp
      have hw4 := HW3.out.of_below hb4
      have C3 := wlen_any w4 _ _ _ _ hw4
      have hz4 := hb4.size
      have hr4' := hr4.low (B0 := w.heap.size) (by omega)
      have hrow4 := HROW3.out.eff (Eff.of_below hb4 (fun _ => False)) (fun _ _ f => f)
      have hlt4 := HROW3.out.lt
      have hbb4 := HB3.out.trans (hb4.mono (by omega))
      have HR4 := Lib.hid hr4'
      have HROW4 := Lib.hid hrow4
      have HLT4 := Lib.hid hlt4
      have HB4 := Lib.hid hbb4
      clear hw4 hr4 hb4 hr4' hrow4 hbb4 hlt4
      go_wp2_with fail
      refine C3.mono ?_
      rintro e w5 ⟨rfl, rfl⟩
      clear C3
      go_wp2
      go_loopw [3, 69] (fun s3 s69 wr => ∃ j : Nat, s69 = .int .i64 j ∧ j ≤ ps.length ∧ Rdr wr w.heap.size p v4 W ((ps.take j).flatMap fun o => wire o (BL o) (LL o)).length ∧ Row8 wr w.heap.size (.slice A ps.length C) ps ∧ Below w.heap.size w wr ∧ w4.heap.size ≤ wr.heap.size) (fun _ s _ => ps.length - (intOf s).toNat)
      case atStart => exact ⟨0, rfl, Nat.zero_le _, HR4.out, HROW4.out, HB4.out, Nat.le_refl _⟩
      case round =>
        obtain ⟨j, rfl, hj, hr, hrow, hb, hz⟩ := hrel
        by_cases hlt : j < ps.length
        · obtain ⟨_, hoo⟩ := hrow.rd
          obtain ⟨bb, oo, rfl, hcells⟩ := hoo (by omega)
          have hmem := HTK.out.mem ps[j] (List.getElem_mem hlt)
          have hopj := HOP.out ps[j] hmem.1
          have hokj := hmem.2
          have hc := hcells j hlt
          have hsplit := flat_split ps (fun o => wire o (BL o) (LL o)) j hlt
          rw [HWW.out] at hsplit
          have hdrop : W.drop ((ps.take j).flatMap fun o => wire o (BL o) (LL o)).length = wire ps[j] (BL ps[j]) (LL ps[j]) ++ (ps.drop (j + 1)).flatMap fun o => wire o (BL o) (LL o) := by rw [hsplit, List.drop_left]
          have hnext : ((ps.take (j + 1)).flatMap fun o => wire o (BL o) (LL o)).length = ((ps.take j).flatMap fun o => wire o (BL o) (LL o)).length + (wire ps[j] (BL ps[j]) (LL ps[j])).length := by
            rw [take_snoc hlt, List.flatMap_append, List.length_append]; simp
          obtain ⟨op, hopq⟩ : ∃ op, ps[j] = op := ⟨_, rfl⟩
          rw [hopq] at hc hopj hokj hdrop hnext
          obtain ⟨bl, hbl⟩ : ∃ bl, BL op = bl := ⟨_, rfl⟩
          obtain ⟨l, hll⟩ : ∃ l, LL op = l := ⟨_, rfl⟩
          rw [hbl, hll] at hopj hdrop hnext
          rw [hll] at hokj
          obtain ⟨K, hK⟩ : ∃ K, ((ps.take j).flatMap fun o => wire o (BL o) (LL o)).length = K := ⟨_, rfl⟩
          rw [hK] at hr hdrop hnext
          obtain ⟨kd, sec, n, u, ii, ba, bn, bc, os, la, ln, lc⟩ := op
          have d0 := hc 0 _ rfl
          have d1 := hc 1 _ rfl
          have d2 := hc 2 _ rfl
          have d3 := hc 3 _ rfl
          have d4 := hc 4 _ rfl
          have d5 := hc 5 _ rfl
          have d6 := hc 6 _ rfl
          have d7 := hc 7 _ rfl
          rw [Nat.add_zero] at d0
          simp only at d0 d1 d2 d3 d4 d5 d6 d7
          obtain ⟨o1, ho1⟩ : ∃ o1, o1 = Obj.cells #[.int .i64 kd, .bool sec, .int .i64 n, .int .u64 u, .int .i64 ii, .slice ba bn bc, .string os, .slice la ln lc] 46 := ⟨_, rfl⟩
          have hbb : Below w.heap.size w (wr.alloc o1) := hb.alloc hb.size _
          have hrb : Rdr (wr.alloc o1) w.heap.size p v4 W K := hr.eff (F := fun _ => False) ((Eff.refl _ _).alloc _) (fun _ _ f => f)
          have hrowb := hrow.eff (F := fun _ => False) ((Eff.refl _ _).alloc o1) (fun _ _ f => f)
          have hzb : (wr.alloc o1).heap.size = wr.heap.size + 1 := by simp
          have hsz1 := hb.size
          have C4 := back_any (wr.alloc o1) w.heap.size p v4 W K hrb (by omega) _ bl l (hopj.below hbb) hokj EA (HE.out.eff (Eff.of_below hbb (fun _ => False)) HG.out (fun _ f => f.elim)) HG.out _ hdrop
          rw [ho1] at C4
          have HO := Lib.hid ho1
          have HNX := Lib.hid hnext
          have HBB := Lib.hid hbb
          have HROWB := Lib.hid hrowb
          clear ho1 hnext hbb hrowb hrb hc hcells hoo hmem hopj hokj hsplit hdrop hopq hbl hll hK hr hrow hb
          go_wp2_with fail
          refine C4.mono ?_
          rintro e w6 ⟨rfl, hr6, he6⟩
          rw [← HO.out] at he6
          have hb6 := HBB.out.trans (he6.below (B := w.heap.size) (fun i hi => by subst hi; omega) (by omega))
          have hrow6 := HROWB.out.eff he6 (fun k hk e => by have := (HLT4.out k hk).2; omega)
          have hz6 := he6.size
          have HR6 := Lib.hid hr6
          have HB6 := Lib.hid hb6
          have HROW6 := Lib.hid hrow6
          clear hr6 he6 hb6 hrow6 C4 d0 d1 d2 d3 d4 d5 d6 d7
          go_wp2
          go_roundw
          case rel => exact ⟨j + 1, by go_num, by omega, by rw [HNX.out]; exact HR6.out, HROW6.out, HB6.out, by omega⟩
          case measure => simp [intOf]; omega
        · obtain rfl : j = ps.length := by omega
          rw [List.take_length, HWW.out] at hr
          have C4 := rdone_any wr _ _ _ _ _ hr rfl
          have HR := Lib.hid hr
          have HB5 := Lib.hid hb
          clear hr hb hrow
          go_wp2_with fail
          refine C4.mono ?_
          rintro e w6 ⟨rfl, d, rfl⟩
          clear C4
          have hr6 := HR.out.drewN d
          have C5 := rat_any _ _ _ _ _ _ hr6
          have C6 := rleft_any _ _ _ _ _ _ hr6
          rw [show (W.length : Int) - (W.length : Int) = 0 by omega] at C6
          clear hr6
          go_wp2_with fail
          refine C5.mono ?_
          rintro e w7 ⟨rfl, rfl⟩
          clear C5
          go_wp2_with fail
          refine C6.mono ?_
          rintro e w7 ⟨rfl, d2, rfl⟩
          clear C6
          go_wp2
          go_ret
          exact ⟨rfl, below_drewN HB5.out _⟩
end Go.Proofs.YtmmflhippbegaaaDoor
