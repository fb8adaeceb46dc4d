/- The law CodecOneForm: its walk. -/
import Derived.Test.YtmmflhippbegaaaDoorAgain
import Derived.Test.YtmmflhippbegaaaDoorLives
import Derived.Test.YtmmflhippbegaaaDoorOpV
import Derived.RegionTactic
import Derived.Deep.RegionHeld3
namespace Go.Proofs.YtmmflhippbegaaaDoor
set_option linter.unusedVariables false
open Go.ChangeShapes Go.WideShapes Go.ChangeAt Go.RowKit

theorem again_any (w : World) (B0 C p q : Nat) (v vw : Value) (bs : List UInt8) (k : Nat) (h : RW w B0 C p q v vw bs k []) (hbs : bs.length ≤ 100000000) (EA : Nat → Addr) (hE : RErr w EA) (hG : GLow B0) (sec b s l : Value) (kd n i : Int) (u : Int) (hn0 : -9223372036854775808 ≤ n) (hn1 : n ≤ 9223372036854775807) :
    Calls Tryd.prog 43 #[.pointer (some ⟨p, 0, none⟩), .pointer (some ⟨q, 0, none⟩), .agg #[.int .i64 kd, sec, .int .i64 n, .int .u64 u, .int .i64 i, b, s, l]] w (AgPost w B0 C p q v bs k) := by
  by_cases hk : kd < 1 ∨ 10 < kd
  · exact again_else w B0 C p q v vw bs k h sec b s l kd n i u hk
  · have hc : kd = 1 ∨ kd = 2 ∨ kd = 3 ∨ kd = 4 ∨ kd = 5 ∨ kd = 6 ∨ kd = 7 ∨ kd = 8 ∨ kd = 9 ∨ kd = 10 := by omega
    rcases hc with rfl | rfl | rfl | rfl | rfl | rfl | rfl | rfl | rfl | rfl
    · exact again_byte w B0 C p q v vw bs k h hbs EA hE hG sec b s l n i u hn0 hn1
    · exact again_uv w B0 C p q v vw bs k h hbs EA hE hG sec b s l n i u hn0 hn1
    · exact again_var w B0 C p q v vw bs k h hbs EA hE hG sec b s l n i u hn0 hn1
    · exact again_w32 w B0 C p q v vw bs k h hbs EA hE hG sec b s l n i u hn0 hn1
    · exact again_w64 w B0 C p q v vw bs k h hbs EA hE hG sec b s l n i u hn0 hn1
    · exact again_raw w B0 C p q v vw bs k h hbs EA hE hG sec b s l n i u hn0 hn1
    · exact again_text w B0 C p q v vw bs k h hbs EA hE hG sec b s l n i u hn0 hn1
    · exact again_ris w B0 C p q v vw bs k h hbs EA hE hG sec b s l n i u hn0 hn1
    · exact again_pck w B0 C p q v vw bs k h hbs EA hE hG sec b s l n i u hn0 hn1
    · exact again_upto w B0 C p q v vw bs k h hbs EA hE hG sec b s l n i u hn0 hn1

set_option maxRecDepth 100000 in
set_option maxHeartbeats 40000000 in
theorem oneForm_walk (w : World) (a : Option Addr) (m c : Nat) (bs : List UInt8) (hr : Rd w (.slice a m c) (bytesV bs)) (hbs : bs.length ≤ 1048576) (a2 : Option Addr) (m2 c2 : Nat) (ops : List OpV) (hops : RdOps w a2 m2 ops) (hol : ops.length ≤ 1048576)
    (hn : ∀ o ∈ ops, -9223372036854775808 ≤ o.n ∧ o.n ≤ 9223372036854775807) (EA : Nat → Addr) (hE : RErr w EA) :
    Calls Tryd.prog 7 #[.slice a m c, .slice a2 m2 c2] w fun e w' => e = .returned (.bool true) ∧ Below w.heap.size w w' := by
  have C0 := lives_any w (errV EA) hE.s hE.v
  have hG : GLow w.heap.size := hE.lt
  have hml : m = bs.length := by obtain ⟨A, c', h, _⟩ := hr; injection h with _ h _; rw [h, bytesV_length]
  subst hml
  obtain rfl := hops.1
  have HOPS := Lib.hid hops
  have HN := Lib.hid hn
  have HRD := Lib.hid hr
  have HG := Lib.hid hG
  have HE := Lib.hid hE
  clear hops hn hr hG hE
  go_enter Tryd.func7, Tryd.ntmps7
  go_wp2_with fail
  refine C0.mono ?_
  rintro e w1 ⟨rfl, hb1⟩
  have C1 := nr_any w1 a bs.length c bs (HRD.out.below hb1 (Nat.le_refl _)) (by omega)
  clear C0
  go_wp2_with fail
  refine C1.mono ?_
  rintro e w2 ⟨p, v, rfl, hr2, hb2⟩
  have hr2' : Rdr w2 w.heap.size p v bs 0 := ⟨hr2.blk, Nat.le_trans hb1.size hr2.hp, own_base hr2.own hb1.size, hr2.le, hr2.sm⟩
  have hb2' := hb1.trans (hb2.mono hb1.size)
  clear C1 hr2 hb2 hb1
  go_wp2
  go_loopw [7, 22] (fun s7 s22 wr => ∃ i K : Nat, s22 = .int .i64 i ∧ i ≤ ops.length ∧ s7 = .int .i64 K ∧ Rdr wr w.heap.size p v bs K ∧ Below w.heap.size w wr) (fun _ s _ => ops.length - (intOf s).toNat)
  case atStart => exact ⟨0, 0, rfl, Nat.zero_le _, rfl, hr2', hb2'⟩
  case round =>
    clear hr2' hb2'
    obtain ⟨i, K, rfl, hi, rfl, hr, hb⟩ := hrel
    by_cases hlt : i < ops.length
    · obtain ⟨_, hoo⟩ := HOPS.out.below hb (Nat.le_refl _)
      obtain ⟨bb, oo, rfl, hcells⟩ := hoo (by omega)
      have hnn := HN.out ops[i] (List.getElem_mem hlt)
      have hc := hcells i hlt
      obtain ⟨op, hop⟩ : ∃ op, ops[i] = op := ⟨_, rfl⟩
      rw [hop] at hc hnn
      obtain ⟨kd, sec, n, u, ii, ba, bn, bc, os, la, ln, lc⟩ := op
      have d0 := hc 0 _ rfl
      have d1 := hc 1 _ rfl
      have d2 := hc 2 _ rfl
      have d3 := hc 3 _ rfl
      have d4 := hc 4 _ rfl
      have d5 := hc 5 _ rfl
      have d6 := hc 6 _ rfl
      have d7 := hc 7 _ rfl
      rw [Nat.add_zero] at d0
      simp only at d0 d1 d2 d3 d4 d5 d6 d7 hnn
      clear hop hc hcells hoo
      obtain ⟨o1, ho1⟩ : ∃ o1, o1 = Obj.cells #[.int .i64 kd, .bool sec, .int .i64 n, .int .u64 u, .int .i64 ii, .slice ba bn bc, .string os, .slice la ln lc] 46 := ⟨_, rfl⟩
      have hrw : RW ((wr.alloc o1).alloc (.cells #[.slice none 0 0] 87)) w.heap.size (wr.alloc o1).heap.size p (wr.alloc o1).heap.size v (.slice none 0 0) bs K [] :=
        ⟨hr.eff (F := fun _ => False) (((Eff.refl _ _).alloc _).alloc _) (fun _ _ f => f), wr_new _, fun j hj => by have := (hr.ge j hj).2; simp; omega, by simp, Nat.le_trans hb.size (by simp)⟩
      rw [show (wr.alloc o1).heap.size = wr.heap.size + 1 by simp] at hrw
      have hb2 : Below w.heap.size w ((wr.alloc o1).alloc (.cells #[.slice none 0 0] 87)) := (hb.alloc hb.size _).alloc (Nat.le_trans hb.size (by simp)) _
      have hE2 := HE.out.eff (Eff.of_below hb2 (fun _ => False)) HG.out (fun _ f => f.elim)
      have C2 := again_any _ _ _ p _ v _ bs K hrw (by omega) EA hE2 HG.out (.bool sec) (.slice ba bn bc) (.string os) (.slice la ln lc) kd n ii u hnn.1 hnn.2
      have HO1 := Lib.hid ho1
      rw [ho1] at C2
      have HB2 := Lib.hid hb2
      clear ho1 hrw hb2 hE2
      go_wp2_with fail
      refine (nw_any _).mono ?_
      rintro e w' ⟨rfl, rfl⟩
      go_wp2_with fail
      refine C2.mono ?_
      rintro e w3 ⟨took, k', vw, out, rfl, hrw3, hkk, ht0, ht1, hb3⟩
      rw [← HO1.out] at hb3
      have hb3' := HB2.out.trans hb3
      have C3 := rat_any w3 _ _ _ _ _ hrw3.r
      have C4 := rleft_any w3 _ _ _ _ _ hrw3.r
      have hkl := hrw3.r.le
      have t1 : decide ((k' : Int) < (K : Int)) = false := decide_eq_false (by omega)
      have t1b : decide (k' < K) = false := decide_eq_false (by omega)
      have t2b : decide (bs.length < k') = false := decide_eq_false (by omega)
      clear C2 hb3 hr d0 d1 d2 d3 d4 d5 d6 d7
      go_wp2_with fail
      refine C3.mono ?_
      rintro e w' ⟨rfl, rfl⟩
      go_wp2_with fail
      refine C4.mono ?_
      rintro e w' ⟨rfl, d, rfl⟩
      cases took
      · have hk0 := ht0 rfl
        subst hk0
        have HR3 := Lib.hid (hrw3.r.drewN d)
        have HB3 := Lib.hid (below_drewN hb3' d)
        clear hrw3 hb3' C3 C4 ht0 ht1
        go_upto_region 18 with fail
        go_quiet (fail)
        go_wp2
        go_roundw
        case rel => exact ⟨i + 1, k', by go_num, by omega, rfl, by rw [← World.drewN_drewN]; exact HR3.out.drewN _, by rw [← World.drewN_drewN]; exact below_drewN HB3.out _⟩
        case measure => simp [intOf]; omega
      · have ho := ht1 rfl
        have hol2 : out.length ≤ 1000000000 := by rw [ho, List.length_take, List.length_drop]; omega
        have CW := fun (w' : World) (hbw : Below w3.heap.size w3 w') => wbytes_any w' _ _ _ out (hrw3.wr.eff (Eff.of_below hbw (fun _ => False)) (fun _ _ f => f)) hol2
        have hrd3 := HRD.out.below hb3' (Nat.le_refl _)
        have HB3 := Lib.hid hb3'
        have HR3 := Lib.hid hrw3.r
        have HOUT := Lib.hid ho
        have hsz3 := hb3'.size
        clear hrw3 hb3' C3 C4 ht0 ht1 ho
        by_cases hpos : 0 < bs.length
        · obtain ⟨A, c', hv, hcc, hgg⟩ := hrd3
          injection hv with hv1 hv2 hv3
          subst hv1 hv3
          rw [bytesV_length] at hcc hgg
          obtain ⟨b0, o0, rfl, hcl⟩ := hgg hpos
          have hkc : K < c ∨ K = c := by omega
          rcases hkc with hkc | hkc
          · have hne : ¬ c = K := by omega
            have hrds : ∀ w', Below w3.heap.size w3 w' → Rd w' (.slice (some ⟨b0, o0 + K, none⟩) (k' - K) (c - K)) (bytesV out) := fun w' hbw => by
              refine ⟨_, c - K, ?_, ?_, fun _ => ⟨b0, o0 + K, rfl, fun j x hx => ?_⟩⟩
              · rw [bytesV_length, HOUT.out, List.length_take, List.length_drop]; congr 1; omega
              · rw [bytesV_length, HOUT.out, List.length_take, List.length_drop]; omega
              · have hjn : j < k' - K := by have := (List.getElem?_eq_some_iff.1 hx).1; rw [bytesV_length, HOUT.out, List.length_take, List.length_drop] at this; omega
                have e : (bytesV bs)[K + j]? = some x := by
                  rw [← hx, HOUT.out]; unfold bytesV
                  rw [List.getElem?_map, List.getElem?_map, List.getElem?_take, if_pos hjn, List.getElem?_drop]
                have h5 := hcl (K + j) x e
                rw [Nat.add_assoc]
                rw [hbw.cell (World.block_lt_of_cell? w3 _ h5)]; exact h5
            have RUN := fun w' hbw => run_str (P := Tryd.prog) Tryd.underlying37 Tryd.underlying5 Tryd.underlying9 (hrds w' hbw)
            have KEEP : ∀ w' w4 : World, Below w3.heap.size w3 w' → Below w'.heap.size w' w4 → Below w3.heap.size w3 w4 := fun w' w4 h1 h2 => h1.trans (h2.mono h1.size)
            have K0 : Below w3.heap.size w3 (w3.drewN d) := below_drewN (Below.refl _ _) d
            clear hrds hcl hgg hv2
            go_upto_region 18 with fail
            generalize w3.drewN d = W3 at K0 ⊢
            have K1 : Below w3.heap.size w3 W3.drew := K0.drew
            have r0 := RUN W3.drew K1
            have CW1 := CW W3.drew K1
            have HRUN := Lib.hid RUN
            have HKEEP := Lib.hid (fun w4 => KEEP W3.drew w4 K1)
            have HHB := Lib.hid hb
            clear RUN KEEP CW K1 K0
            refine wp_region_any (by kernel_rfl) ?_
            change wpAny _ _ _ _ _ _ _ (World.drew _)
            refine wpAny_take (i := 0) (v := ?_) rfl (by kernel_rfl) (by kernel_rfl) (by kernel_rfl) (fun _ _ _ h => h) (Or.inl ⟨by kernel_rfl, ?_⟩) ?_
            rotate_left
            · intro w; go_simp; try with_reducible rfl
            refine wpAny_take (i := 1) (v := ?_) rfl (by kernel_rfl) (by kernel_rfl) (by kernel_rfl) (fun _ _ _ h => h) (Or.inl ⟨by kernel_rfl, ?_⟩) ?_
            rotate_left
            · intro w; go_simp; try with_reducible rfl
            refine wpAny_take (i := 2) (v := ?_) rfl (by kernel_rfl) (by kernel_rfl) (by kernel_rfl) (fun _ _ _ h => h) (Or.inl ⟨by kernel_rfl, ?_⟩) ?_
            rotate_left
            · intro w; go_simp; try with_reducible rfl
            refine wpAny_take (i := 3) rfl (by kernel_rfl) (by kernel_rfl) (by kernel_rfl) (fun _ _ _ h => h) (Or.inr ⟨by kernel_rfl, rfl⟩) ?_
            refine wpAny_take (i := 4) rfl (by kernel_rfl) (by kernel_rfl) (by kernel_rfl) (fun _ _ _ h => h) (Or.inr ⟨by kernel_rfl, rfl⟩) ?_
            refine wpAny_take (i := 5) rfl (by kernel_rfl) (by kernel_rfl) (by kernel_rfl) (fun _ _ _ h => h) (Or.inr ⟨by kernel_rfl, rfl⟩) ?_
            refine wpAny_take (i := 6) (v := ?_) rfl (by kernel_rfl) (by kernel_rfl) (by kernel_rfl) (fun _ _ _ h => h) (Or.inl ⟨by kernel_rfl, ?_⟩) ?_
            rotate_left
            · intro w; go_simp; try with_reducible rfl
            refine wpAny_take (i := 7) (v := ?_) rfl (by kernel_rfl) (by kernel_rfl) (by kernel_rfl) (fun _ _ _ h => h) (Or.inl ⟨by kernel_rfl, ?_⟩) ?_
            rotate_left
            · intro w; go_simp; try with_reducible rfl
            refine wpAny_take (i := 8) (v := ?_) rfl (by kernel_rfl) (by kernel_rfl) (by kernel_rfl) (fun _ _ _ h => h) (Or.inl ⟨by kernel_rfl, ?_⟩) ?_
            rotate_left
            · intro w; go_simp; try with_reducible rfl
            refine wpAny_take (i := 9) (v := ?_) rfl (by kernel_rfl) (by kernel_rfl) (by kernel_rfl) (fun _ _ _ h => h) (Or.inl ⟨by kernel_rfl, ?_⟩) ?_
            rotate_left
            · intro w; go_simp; try with_reducible rfl
            refine wpAny_take (i := 10) (v := ?_) rfl (by kernel_rfl) (by kernel_rfl) (by kernel_rfl) (fun _ _ _ h => h) (Or.inl ⟨by kernel_rfl, ?_⟩) ?_
            rotate_left
            · intro w; go_simp; try with_reducible rfl
            refine wpAny_take (i := 13) (v := ?_) rfl (by kernel_rfl) (by kernel_rfl) (by kernel_rfl) (fun _ _ _ h => h) (Or.inl ⟨by kernel_rfl, ?_⟩) ?_
            rotate_left
            · intro w; go_simp; try with_reducible rfl
            refine wpAny_take (i := 14) (v := ?_) rfl (by kernel_rfl) (by kernel_rfl) (by kernel_rfl) (fun _ _ _ h => h) (Or.inl ⟨by kernel_rfl, ?_⟩) ?_
            rotate_left
            · intro w; go_simp; try with_reducible rfl
            refine wpAny_take (i := 15) (v := ?_) rfl (by kernel_rfl) (by kernel_rfl) (by kernel_rfl) (fun _ _ _ h => h) (Or.inl ⟨by kernel_rfl, ?_⟩) ?_
            rotate_left
            · intro w; go_simp; try with_reducible rfl
            refine wpAny_take (i := 16) (v := ?_) rfl (by kernel_rfl) (by kernel_rfl) (by kernel_rfl) (fun _ _ _ h => h) (Or.inl ⟨by kernel_rfl, ?_⟩) ?_
            rotate_left
            · intro w; go_simp; rw [if_pos (show k' ≤ c by omega)]
            refine wpAny_ready (rs := [11, 17]) (by kernel_rfl) (by simp) ?_
            refine AllReady.cons rfl (fun K hK => ?_) ?_
            · rw [if_pos (by kernel_rfl)]
              go_simp
              go_wp2_with (go_at_call 18; refine CW1.mono ?_; rintro e w4 ⟨v4, rfl, ho4, hb4⟩; obtain ⟨a4, n4, c4, rfl⟩ := own_sl ho4; have r4 := run_str (P := Tryd.prog) Tryd.underlying37 Tryd.underlying5 Tryd.underlying9 ho4.rd; have r5 := HRUN.out w4 (HKEEP.out w4 hb4))
              refine wpAny_ready (rs := [12, 17]) (by kernel_rfl) (by simp) ?_
              refine AllReady.cons rfl (fun K hK => ?_) ?_
              · rw [if_pos (by kernel_rfl)]
                go_simp
                refine hK _ _ ?_; clear hK K
                refine wpAny_ready (rs := [17]) (by kernel_rfl) (by simp) ?_
                refine AllReady.cons rfl (fun K hK => ?_) ?_
                · rw [if_pos (by kernel_rfl)]
                  go_simp
                  refine hK _ _ ?_; clear hK K
                  refine wpAny_take (i := 18) (v := ?_) rfl (by kernel_rfl) (by kernel_rfl) (by kernel_rfl) (fun _ _ _ h => h) (Or.inl ⟨by kernel_rfl, ?_⟩) ?_
                  rotate_left
                  · intro w; go_simp; try with_reducible rfl
                  refine wpAny_take (i := 19) (v := ?_) rfl (by kernel_rfl) (by kernel_rfl) (by kernel_rfl) (fun _ _ _ h => h) (Or.inl ⟨by kernel_rfl, ?_⟩) ?_
                  rotate_left
                  · intro w; go_simp; try with_reducible rfl
                  refine wpAny_take (i := 20) (v := ?_) rfl (by kernel_rfl) (by kernel_rfl) (by kernel_rfl) (fun _ _ _ h => h) (Or.inl ⟨by kernel_rfl, ?_⟩) ?_
                  rotate_left
                  · intro w; go_simp; try with_reducible rfl
                  refine wpAny_done (by kernel_rfl) ?_ _
                  go_wp2
                  go_roundw
                  case rel => exact ⟨i + 1, k', by go_num, by omega, rfl, HR3.out.eff (F := fun _ => False) (Eff.of_below (HKEEP.out w4 hb4) _) (fun _ _ f => f), HB3.out.trans ((HKEEP.out w4 hb4).mono hsz3)⟩
                  case measure => simp [intOf]; omega
                exact AllReady.nil
              refine AllReady.cons rfl (fun K hK => ?_) ?_
              · rw [if_pos (by kernel_rfl)]
                go_simp
                refine hK _ _ ?_; clear hK K
                refine wpAny_ready (rs := [12]) (by kernel_rfl) (by simp) ?_
                refine AllReady.cons rfl (fun K hK => ?_) ?_
                · rw [if_pos (by kernel_rfl)]
                  go_simp
                  refine hK _ _ ?_; clear hK K
                  refine wpAny_take (i := 18) (v := ?_) rfl (by kernel_rfl) (by kernel_rfl) (by kernel_rfl) (fun _ _ _ h => h) (Or.inl ⟨by kernel_rfl, ?_⟩) ?_
                  rotate_left
                  · intro w; go_simp; try with_reducible rfl
                  refine wpAny_take (i := 19) (v := ?_) rfl (by kernel_rfl) (by kernel_rfl) (by kernel_rfl) (fun _ _ _ h => h) (Or.inl ⟨by kernel_rfl, ?_⟩) ?_
                  rotate_left
                  · intro w; go_simp; try with_reducible rfl
                  refine wpAny_take (i := 20) (v := ?_) rfl (by kernel_rfl) (by kernel_rfl) (by kernel_rfl) (fun _ _ _ h => h) (Or.inl ⟨by kernel_rfl, ?_⟩) ?_
                  rotate_left
                  · intro w; go_simp; try with_reducible rfl
                  refine wpAny_done (by kernel_rfl) ?_ _
                  go_wp2
                  go_roundw
                  case rel => exact ⟨i + 1, k', by go_num, by omega, rfl, HR3.out.eff (F := fun _ => False) (Eff.of_below (HKEEP.out w4 hb4) _) (fun _ _ f => f), HB3.out.trans ((HKEEP.out w4 hb4).mono hsz3)⟩
                  case measure => simp [intOf]; omega
                exact AllReady.nil
              exact AllReady.nil
            refine AllReady.cons rfl (fun K hK => ?_) ?_
            · rw [if_pos (by kernel_rfl)]
              go_simp
              refine hK _ _ ?_; clear hK K
              refine wpAny_ready (rs := [11]) (by kernel_rfl) (by simp) ?_
              refine AllReady.cons rfl (fun K hK => ?_) ?_
              · rw [if_pos (by kernel_rfl)]
                go_simp
                go_wp2_with (go_at_call 18; refine CW1.mono ?_; rintro e w4 ⟨v4, rfl, ho4, hb4⟩; obtain ⟨a4, n4, c4, rfl⟩ := own_sl ho4; have r4 := run_str (P := Tryd.prog) Tryd.underlying37 Tryd.underlying5 Tryd.underlying9 ho4.rd; have r5 := HRUN.out w4 (HKEEP.out w4 hb4))
                refine wpAny_ready (rs := [12]) (by kernel_rfl) (by simp) ?_
                refine AllReady.cons rfl (fun K hK => ?_) ?_
                · rw [if_pos (by kernel_rfl)]
                  go_simp
                  refine hK _ _ ?_; clear hK K
                  refine wpAny_take (i := 18) (v := ?_) rfl (by kernel_rfl) (by kernel_rfl) (by kernel_rfl) (fun _ _ _ h => h) (Or.inl ⟨by kernel_rfl, ?_⟩) ?_
                  rotate_left
                  · intro w; go_simp; try with_reducible rfl
                  refine wpAny_take (i := 19) (v := ?_) rfl (by kernel_rfl) (by kernel_rfl) (by kernel_rfl) (fun _ _ _ h => h) (Or.inl ⟨by kernel_rfl, ?_⟩) ?_
                  rotate_left
                  · intro w; go_simp; try with_reducible rfl
                  refine wpAny_take (i := 20) (v := ?_) rfl (by kernel_rfl) (by kernel_rfl) (by kernel_rfl) (fun _ _ _ h => h) (Or.inl ⟨by kernel_rfl, ?_⟩) ?_
                  rotate_left
                  · intro w; go_simp; try with_reducible rfl
                  refine wpAny_done (by kernel_rfl) ?_ _
                  go_wp2
                  go_roundw
                  case rel => exact ⟨i + 1, k', by go_num, by omega, rfl, HR3.out.eff (F := fun _ => False) (Eff.of_below (HKEEP.out w4 hb4) _) (fun _ _ f => f), HB3.out.trans ((HKEEP.out w4 hb4).mono hsz3)⟩
                  case measure => simp [intOf]; omega
                exact AllReady.nil
              exact AllReady.nil
            exact AllReady.nil
          · subst hkc
            obtain rfl : K = k' := by omega
            clear hcl hgg hv2
            have hout : out = [] := List.eq_nil_of_length_eq_zero (by rw [HOUT.out, List.length_take, List.length_drop]; omega)
            have RUN := fun (w' : World) (hbw : Below w3.heap.size w3 w') => (fun (A : Option Addr) (c' : Nat) => run_str (P := Tryd.prog) Tryd.underlying37 Tryd.underlying5 Tryd.underlying9 (show Rd w' (.slice A 0 c') (bytesV out) from hout ▸ ⟨A, c', rfl, Nat.zero_le _, fun h => absurd h (Nat.lt_irrefl 0)⟩))
            have KEEP : ∀ w' w4 : World, Below w3.heap.size w3 w' → Below w'.heap.size w' w4 → Below w3.heap.size w3 w4 := fun w' w4 h1 h2 => h1.trans (h2.mono h1.size)
            have K0 : Below w3.heap.size w3 (w3.drewN d) := below_drewN (Below.refl _ _) d
            clear hout
            go_upto_region 18 with fail
            generalize w3.drewN d = W3 at K0 ⊢
            have K1 : Below w3.heap.size w3 W3.drew := K0.drew
            have r0 := RUN W3.drew K1
            have CW1 := CW W3.drew K1
            have HRUN := Lib.hid RUN
            have HKEEP := Lib.hid (fun w4 => KEEP W3.drew w4 K1)
            have HHB := Lib.hid hb
            clear RUN KEEP CW K1 K0
            refine wp_region_any (by kernel_rfl) ?_
            change wpAny _ _ _ _ _ _ _ (World.drew _)
            refine wpAny_take (i := 0) (v := ?_) rfl (by kernel_rfl) (by kernel_rfl) (by kernel_rfl) (fun _ _ _ h => h) (Or.inl ⟨by kernel_rfl, ?_⟩) ?_
            rotate_left
            · intro w; go_simp; try with_reducible rfl
            refine wpAny_take (i := 1) (v := ?_) rfl (by kernel_rfl) (by kernel_rfl) (by kernel_rfl) (fun _ _ _ h => h) (Or.inl ⟨by kernel_rfl, ?_⟩) ?_
            rotate_left
            · intro w; go_simp; try with_reducible rfl
            refine wpAny_take (i := 2) (v := ?_) rfl (by kernel_rfl) (by kernel_rfl) (by kernel_rfl) (fun _ _ _ h => h) (Or.inl ⟨by kernel_rfl, ?_⟩) ?_
            rotate_left
            · intro w; go_simp; try with_reducible rfl
            refine wpAny_take (i := 3) rfl (by kernel_rfl) (by kernel_rfl) (by kernel_rfl) (fun _ _ _ h => h) (Or.inr ⟨by kernel_rfl, rfl⟩) ?_
            refine wpAny_take (i := 4) rfl (by kernel_rfl) (by kernel_rfl) (by kernel_rfl) (fun _ _ _ h => h) (Or.inr ⟨by kernel_rfl, rfl⟩) ?_
            refine wpAny_take (i := 5) rfl (by kernel_rfl) (by kernel_rfl) (by kernel_rfl) (fun _ _ _ h => h) (Or.inr ⟨by kernel_rfl, rfl⟩) ?_
            refine wpAny_take (i := 6) (v := ?_) rfl (by kernel_rfl) (by kernel_rfl) (by kernel_rfl) (fun _ _ _ h => h) (Or.inl ⟨by kernel_rfl, ?_⟩) ?_
            rotate_left
            · intro w; go_simp; try with_reducible rfl
            refine wpAny_take (i := 7) (v := ?_) rfl (by kernel_rfl) (by kernel_rfl) (by kernel_rfl) (fun _ _ _ h => h) (Or.inl ⟨by kernel_rfl, ?_⟩) ?_
            rotate_left
            · intro w; go_simp; try with_reducible rfl
            refine wpAny_take (i := 8) (v := ?_) rfl (by kernel_rfl) (by kernel_rfl) (by kernel_rfl) (fun _ _ _ h => h) (Or.inl ⟨by kernel_rfl, ?_⟩) ?_
            rotate_left
            · intro w; go_simp; try with_reducible rfl
            refine wpAny_take (i := 9) (v := ?_) rfl (by kernel_rfl) (by kernel_rfl) (by kernel_rfl) (fun _ _ _ h => h) (Or.inl ⟨by kernel_rfl, ?_⟩) ?_
            rotate_left
            · intro w; go_simp; try with_reducible rfl
            refine wpAny_take (i := 10) (v := ?_) rfl (by kernel_rfl) (by kernel_rfl) (by kernel_rfl) (fun _ _ _ h => h) (Or.inl ⟨by kernel_rfl, ?_⟩) ?_
            rotate_left
            · intro w; go_simp; try with_reducible rfl
            refine wpAny_take (i := 13) (v := ?_) rfl (by kernel_rfl) (by kernel_rfl) (by kernel_rfl) (fun _ _ _ h => h) (Or.inl ⟨by kernel_rfl, ?_⟩) ?_
            rotate_left
            · intro w; go_simp; try with_reducible rfl
            refine wpAny_take (i := 14) (v := ?_) rfl (by kernel_rfl) (by kernel_rfl) (by kernel_rfl) (fun _ _ _ h => h) (Or.inl ⟨by kernel_rfl, ?_⟩) ?_
            rotate_left
            · intro w; go_simp; try with_reducible rfl
            refine wpAny_take (i := 15) (v := ?_) rfl (by kernel_rfl) (by kernel_rfl) (by kernel_rfl) (fun _ _ _ h => h) (Or.inl ⟨by kernel_rfl, ?_⟩) ?_
            rotate_left
            · intro w; go_simp; try with_reducible rfl
            refine wpAny_take (i := 16) (v := ?_) rfl (by kernel_rfl) (by kernel_rfl) (by kernel_rfl) (fun _ _ _ h => h) (Or.inl ⟨by kernel_rfl, ?_⟩) ?_
            rotate_left
            · intro w; go_simp; try with_reducible rfl
            refine wpAny_ready (rs := [11, 17]) (by kernel_rfl) (by simp) ?_
            refine AllReady.cons rfl (fun K hK => ?_) ?_
            · rw [if_pos (by kernel_rfl)]
              go_simp
              go_wp2_with (go_at_call 18; refine CW1.mono ?_; rintro e w4 ⟨v4, rfl, ho4, hb4⟩; obtain ⟨a4, n4, c4, rfl⟩ := own_sl ho4; have r4 := run_str (P := Tryd.prog) Tryd.underlying37 Tryd.underlying5 Tryd.underlying9 ho4.rd; have r5 := HRUN.out w4 (HKEEP.out w4 hb4))
              refine wpAny_ready (rs := [12, 17]) (by kernel_rfl) (by simp) ?_
              refine AllReady.cons rfl (fun K hK => ?_) ?_
              · rw [if_pos (by kernel_rfl)]
                go_simp
                refine hK _ _ ?_; clear hK K
                refine wpAny_ready (rs := [17]) (by kernel_rfl) (by simp) ?_
                refine AllReady.cons rfl (fun K hK => ?_) ?_
                · rw [if_pos (by kernel_rfl)]
                  go_simp
                  refine hK _ _ ?_; clear hK K
                  refine wpAny_take (i := 18) (v := ?_) rfl (by kernel_rfl) (by kernel_rfl) (by kernel_rfl) (fun _ _ _ h => h) (Or.inl ⟨by kernel_rfl, ?_⟩) ?_
                  rotate_left
                  · intro w; go_simp; try with_reducible rfl
                  refine wpAny_take (i := 19) (v := ?_) rfl (by kernel_rfl) (by kernel_rfl) (by kernel_rfl) (fun _ _ _ h => h) (Or.inl ⟨by kernel_rfl, ?_⟩) ?_
                  rotate_left
                  · intro w; go_simp; try with_reducible rfl
                  refine wpAny_take (i := 20) (v := ?_) rfl (by kernel_rfl) (by kernel_rfl) (by kernel_rfl) (fun _ _ _ h => h) (Or.inl ⟨by kernel_rfl, ?_⟩) ?_
                  rotate_left
                  · intro w; go_simp; try with_reducible rfl
                  refine wpAny_done (by kernel_rfl) ?_ _
                  go_wp2
                  go_roundw
                  case rel => exact ⟨i + 1, K, by go_num, by omega, rfl, HR3.out.eff (F := fun _ => False) (Eff.of_below (HKEEP.out w4 hb4) _) (fun _ _ f => f), HB3.out.trans ((HKEEP.out w4 hb4).mono hsz3)⟩
                  case measure => simp [intOf]; omega
                exact AllReady.nil
              refine AllReady.cons rfl (fun K hK => ?_) ?_
              · rw [if_pos (by kernel_rfl)]
                go_simp
                refine hK _ _ ?_; clear hK K
                refine wpAny_ready (rs := [12]) (by kernel_rfl) (by simp) ?_
                refine AllReady.cons rfl (fun K hK => ?_) ?_
                · rw [if_pos (by kernel_rfl)]
                  go_simp
                  refine hK _ _ ?_; clear hK K
                  refine wpAny_take (i := 18) (v := ?_) rfl (by kernel_rfl) (by kernel_rfl) (by kernel_rfl) (fun _ _ _ h => h) (Or.inl ⟨by kernel_rfl, ?_⟩) ?_
                  rotate_left
                  · intro w; go_simp; try with_reducible rfl
                  refine wpAny_take (i := 19) (v := ?_) rfl (by kernel_rfl) (by kernel_rfl) (by kernel_rfl) (fun _ _ _ h => h) (Or.inl ⟨by kernel_rfl, ?_⟩) ?_
                  rotate_left
                  · intro w; go_simp; try with_reducible rfl
                  refine wpAny_take (i := 20) (v := ?_) rfl (by kernel_rfl) (by kernel_rfl) (by kernel_rfl) (fun _ _ _ h => h) (Or.inl ⟨by kernel_rfl, ?_⟩) ?_
                  rotate_left
                  · intro w; go_simp; try with_reducible rfl
                  refine wpAny_done (by kernel_rfl) ?_ _
                  go_wp2
                  go_roundw
                  case rel => exact ⟨i + 1, K, by go_num, by omega, rfl, HR3.out.eff (F := fun _ => False) (Eff.of_below (HKEEP.out w4 hb4) _) (fun _ _ f => f), HB3.out.trans ((HKEEP.out w4 hb4).mono hsz3)⟩
                  case measure => simp [intOf]; omega
                exact AllReady.nil
              exact AllReady.nil
            refine AllReady.cons rfl (fun K hK => ?_) ?_
            · rw [if_pos (by kernel_rfl)]
              go_simp
              refine hK _ _ ?_; clear hK K
              refine wpAny_ready (rs := [11]) (by kernel_rfl) (by simp) ?_
              refine AllReady.cons rfl (fun K hK => ?_) ?_
              · rw [if_pos (by kernel_rfl)]
                go_simp
                go_wp2_with (go_at_call 18; refine CW1.mono ?_; rintro e w4 ⟨v4, rfl, ho4, hb4⟩; obtain ⟨a4, n4, c4, rfl⟩ := own_sl ho4; have r4 := run_str (P := Tryd.prog) Tryd.underlying37 Tryd.underlying5 Tryd.underlying9 ho4.rd; have r5 := HRUN.out w4 (HKEEP.out w4 hb4))
                refine wpAny_ready (rs := [12]) (by kernel_rfl) (by simp) ?_
                refine AllReady.cons rfl (fun K hK => ?_) ?_
                · rw [if_pos (by kernel_rfl)]
                  go_simp
                  refine hK _ _ ?_; clear hK K
                  refine wpAny_take (i := 18) (v := ?_) rfl (by kernel_rfl) (by kernel_rfl) (by kernel_rfl) (fun _ _ _ h => h) (Or.inl ⟨by kernel_rfl, ?_⟩) ?_
                  rotate_left
                  · intro w; go_simp; try with_reducible rfl
                  refine wpAny_take (i := 19) (v := ?_) rfl (by kernel_rfl) (by kernel_rfl) (by kernel_rfl) (fun _ _ _ h => h) (Or.inl ⟨by kernel_rfl, ?_⟩) ?_
                  rotate_left
                  · intro w; go_simp; try with_reducible rfl
                  refine wpAny_take (i := 20) (v := ?_) rfl (by kernel_rfl) (by kernel_rfl) (by kernel_rfl) (fun _ _ _ h => h) (Or.inl ⟨by kernel_rfl, ?_⟩) ?_
                  rotate_left
                  · intro w; go_simp; try with_reducible rfl
                  refine wpAny_done (by kernel_rfl) ?_ _
                  go_wp2
                  go_roundw
                  case rel => exact ⟨i + 1, K, by go_num, by omega, rfl, HR3.out.eff (F := fun _ => False) (Eff.of_below (HKEEP.out w4 hb4) _) (fun _ _ f => f), HB3.out.trans ((HKEEP.out w4 hb4).mono hsz3)⟩
                  case measure => simp [intOf]; omega
                exact AllReady.nil
              exact AllReady.nil
            exact AllReady.nil
        · obtain rfl : K = k' := by omega
          have hK0 : K = 0 := by omega
          subst hK0
          clear hrd3
          rcases a with _ | ⟨b0, o0, sp⟩
          · skip
            have hout : out = [] := List.eq_nil_of_length_eq_zero (by rw [HOUT.out, List.length_take, List.length_drop]; omega)
            have RUN := fun (w' : World) (hbw : Below w3.heap.size w3 w') => (fun (A : Option Addr) (c' : Nat) => run_str (P := Tryd.prog) Tryd.underlying37 Tryd.underlying5 Tryd.underlying9 (show Rd w' (.slice A 0 c') (bytesV out) from hout ▸ ⟨A, c', rfl, Nat.zero_le _, fun h => absurd h (Nat.lt_irrefl 0)⟩))
            have KEEP : ∀ w' w4 : World, Below w3.heap.size w3 w' → Below w'.heap.size w' w4 → Below w3.heap.size w3 w4 := fun w' w4 h1 h2 => h1.trans (h2.mono h1.size)
            have K0 : Below w3.heap.size w3 (w3.drewN d) := below_drewN (Below.refl _ _) d
            clear hout
            go_upto_region 18 with fail
            generalize w3.drewN d = W3 at K0 ⊢
            have K1 : Below w3.heap.size w3 W3.drew := K0.drew
            have r0 := RUN W3.drew K1
            have CW1 := CW W3.drew K1
            have HRUN := Lib.hid RUN
            have HKEEP := Lib.hid (fun w4 => KEEP W3.drew w4 K1)
            have HHB := Lib.hid hb
            clear RUN KEEP CW K1 K0
            refine wp_region_any (by kernel_rfl) ?_
            change wpAny _ _ _ _ _ _ _ (World.drew _)
            refine wpAny_take (i := 0) (v := ?_) rfl (by kernel_rfl) (by kernel_rfl) (by kernel_rfl) (fun _ _ _ h => h) (Or.inl ⟨by kernel_rfl, ?_⟩) ?_
            rotate_left
            · intro w; go_simp; try with_reducible rfl
            refine wpAny_take (i := 1) (v := ?_) rfl (by kernel_rfl) (by kernel_rfl) (by kernel_rfl) (fun _ _ _ h => h) (Or.inl ⟨by kernel_rfl, ?_⟩) ?_
            rotate_left
            · intro w; go_simp; try with_reducible rfl
            refine wpAny_take (i := 2) (v := ?_) rfl (by kernel_rfl) (by kernel_rfl) (by kernel_rfl) (fun _ _ _ h => h) (Or.inl ⟨by kernel_rfl, ?_⟩) ?_
            rotate_left
            · intro w; go_simp; try with_reducible rfl
            refine wpAny_take (i := 3) rfl (by kernel_rfl) (by kernel_rfl) (by kernel_rfl) (fun _ _ _ h => h) (Or.inr ⟨by kernel_rfl, rfl⟩) ?_
            refine wpAny_take (i := 4) rfl (by kernel_rfl) (by kernel_rfl) (by kernel_rfl) (fun _ _ _ h => h) (Or.inr ⟨by kernel_rfl, rfl⟩) ?_
            refine wpAny_take (i := 5) rfl (by kernel_rfl) (by kernel_rfl) (by kernel_rfl) (fun _ _ _ h => h) (Or.inr ⟨by kernel_rfl, rfl⟩) ?_
            refine wpAny_take (i := 6) (v := ?_) rfl (by kernel_rfl) (by kernel_rfl) (by kernel_rfl) (fun _ _ _ h => h) (Or.inl ⟨by kernel_rfl, ?_⟩) ?_
            rotate_left
            · intro w; go_simp; try with_reducible rfl
            refine wpAny_take (i := 7) (v := ?_) rfl (by kernel_rfl) (by kernel_rfl) (by kernel_rfl) (fun _ _ _ h => h) (Or.inl ⟨by kernel_rfl, ?_⟩) ?_
            rotate_left
            · intro w; go_simp; try with_reducible rfl
            refine wpAny_take (i := 8) (v := ?_) rfl (by kernel_rfl) (by kernel_rfl) (by kernel_rfl) (fun _ _ _ h => h) (Or.inl ⟨by kernel_rfl, ?_⟩) ?_
            rotate_left
            · intro w; go_simp; try with_reducible rfl
            refine wpAny_take (i := 9) (v := ?_) rfl (by kernel_rfl) (by kernel_rfl) (by kernel_rfl) (fun _ _ _ h => h) (Or.inl ⟨by kernel_rfl, ?_⟩) ?_
            rotate_left
            · intro w; go_simp; try with_reducible rfl
            refine wpAny_take (i := 10) (v := ?_) rfl (by kernel_rfl) (by kernel_rfl) (by kernel_rfl) (fun _ _ _ h => h) (Or.inl ⟨by kernel_rfl, ?_⟩) ?_
            rotate_left
            · intro w; go_simp; try with_reducible rfl
            refine wpAny_take (i := 13) (v := ?_) rfl (by kernel_rfl) (by kernel_rfl) (by kernel_rfl) (fun _ _ _ h => h) (Or.inl ⟨by kernel_rfl, ?_⟩) ?_
            rotate_left
            · intro w; go_simp; try with_reducible rfl
            refine wpAny_take (i := 14) (v := ?_) rfl (by kernel_rfl) (by kernel_rfl) (by kernel_rfl) (fun _ _ _ h => h) (Or.inl ⟨by kernel_rfl, ?_⟩) ?_
            rotate_left
            · intro w; go_simp; try with_reducible rfl
            refine wpAny_take (i := 15) (v := ?_) rfl (by kernel_rfl) (by kernel_rfl) (by kernel_rfl) (fun _ _ _ h => h) (Or.inl ⟨by kernel_rfl, ?_⟩) ?_
            rotate_left
            · intro w; go_simp; try with_reducible rfl
            refine wpAny_take (i := 16) (v := ?_) rfl (by kernel_rfl) (by kernel_rfl) (by kernel_rfl) (fun _ _ _ h => h) (Or.inl ⟨by kernel_rfl, ?_⟩) ?_
            rotate_left
            · intro w; go_simp; try with_reducible rfl
            refine wpAny_ready (rs := [11, 17]) (by kernel_rfl) (by simp) ?_
            refine AllReady.cons rfl (fun K hK => ?_) ?_
            · rw [if_pos (by kernel_rfl)]
              go_simp
              go_wp2_with (go_at_call 18; refine CW1.mono ?_; rintro e w4 ⟨v4, rfl, ho4, hb4⟩; obtain ⟨a4, n4, c4, rfl⟩ := own_sl ho4; have r4 := run_str (P := Tryd.prog) Tryd.underlying37 Tryd.underlying5 Tryd.underlying9 ho4.rd; have r5 := HRUN.out w4 (HKEEP.out w4 hb4))
              refine wpAny_ready (rs := [12, 17]) (by kernel_rfl) (by simp) ?_
              refine AllReady.cons rfl (fun K hK => ?_) ?_
              · rw [if_pos (by kernel_rfl)]
                go_simp
                refine hK _ _ ?_; clear hK K
                refine wpAny_ready (rs := [17]) (by kernel_rfl) (by simp) ?_
                refine AllReady.cons rfl (fun K hK => ?_) ?_
                · rw [if_pos (by kernel_rfl)]
                  go_simp
                  refine hK _ _ ?_; clear hK K
                  refine wpAny_take (i := 18) (v := ?_) rfl (by kernel_rfl) (by kernel_rfl) (by kernel_rfl) (fun _ _ _ h => h) (Or.inl ⟨by kernel_rfl, ?_⟩) ?_
                  rotate_left
                  · intro w; go_simp; try with_reducible rfl
                  refine wpAny_take (i := 19) (v := ?_) rfl (by kernel_rfl) (by kernel_rfl) (by kernel_rfl) (fun _ _ _ h => h) (Or.inl ⟨by kernel_rfl, ?_⟩) ?_
                  rotate_left
                  · intro w; go_simp; try with_reducible rfl
                  refine wpAny_take (i := 20) (v := ?_) rfl (by kernel_rfl) (by kernel_rfl) (by kernel_rfl) (fun _ _ _ h => h) (Or.inl ⟨by kernel_rfl, ?_⟩) ?_
                  rotate_left
                  · intro w; go_simp; try with_reducible rfl
                  refine wpAny_done (by kernel_rfl) ?_ _
                  go_wp2
                  go_roundw
                  case rel => exact ⟨i + 1, 0, by go_num, by omega, rfl, HR3.out.eff (F := fun _ => False) (Eff.of_below (HKEEP.out w4 hb4) _) (fun _ _ f => f), HB3.out.trans ((HKEEP.out w4 hb4).mono hsz3)⟩
                  case measure => simp [intOf]; omega
                exact AllReady.nil
              refine AllReady.cons rfl (fun K hK => ?_) ?_
              · rw [if_pos (by kernel_rfl)]
                go_simp
                refine hK _ _ ?_; clear hK K
                refine wpAny_ready (rs := [12]) (by kernel_rfl) (by simp) ?_
                refine AllReady.cons rfl (fun K hK => ?_) ?_
                · rw [if_pos (by kernel_rfl)]
                  go_simp
                  refine hK _ _ ?_; clear hK K
                  refine wpAny_take (i := 18) (v := ?_) rfl (by kernel_rfl) (by kernel_rfl) (by kernel_rfl) (fun _ _ _ h => h) (Or.inl ⟨by kernel_rfl, ?_⟩) ?_
                  rotate_left
                  · intro w; go_simp; try with_reducible rfl
                  refine wpAny_take (i := 19) (v := ?_) rfl (by kernel_rfl) (by kernel_rfl) (by kernel_rfl) (fun _ _ _ h => h) (Or.inl ⟨by kernel_rfl, ?_⟩) ?_
                  rotate_left
                  · intro w; go_simp; try with_reducible rfl
                  refine wpAny_take (i := 20) (v := ?_) rfl (by kernel_rfl) (by kernel_rfl) (by kernel_rfl) (fun _ _ _ h => h) (Or.inl ⟨by kernel_rfl, ?_⟩) ?_
                  rotate_left
                  · intro w; go_simp; try with_reducible rfl
                  refine wpAny_done (by kernel_rfl) ?_ _
                  go_wp2
                  go_roundw
                  case rel => exact ⟨i + 1, 0, by go_num, by omega, rfl, HR3.out.eff (F := fun _ => False) (Eff.of_below (HKEEP.out w4 hb4) _) (fun _ _ f => f), HB3.out.trans ((HKEEP.out w4 hb4).mono hsz3)⟩
                  case measure => simp [intOf]; omega
                exact AllReady.nil
              exact AllReady.nil
            refine AllReady.cons rfl (fun K hK => ?_) ?_
            · rw [if_pos (by kernel_rfl)]
              go_simp
              refine hK _ _ ?_; clear hK K
              refine wpAny_ready (rs := [11]) (by kernel_rfl) (by simp) ?_
              refine AllReady.cons rfl (fun K hK => ?_) ?_
              · rw [if_pos (by kernel_rfl)]
                go_simp
                go_wp2_with (go_at_call 18; refine CW1.mono ?_; rintro e w4 ⟨v4, rfl, ho4, hb4⟩; obtain ⟨a4, n4, c4, rfl⟩ := own_sl ho4; have r4 := run_str (P := Tryd.prog) Tryd.underlying37 Tryd.underlying5 Tryd.underlying9 ho4.rd; have r5 := HRUN.out w4 (HKEEP.out w4 hb4))
                refine wpAny_ready (rs := [12]) (by kernel_rfl) (by simp) ?_
                refine AllReady.cons rfl (fun K hK => ?_) ?_
                · rw [if_pos (by kernel_rfl)]
                  go_simp
                  refine hK _ _ ?_; clear hK K
                  refine wpAny_take (i := 18) (v := ?_) rfl (by kernel_rfl) (by kernel_rfl) (by kernel_rfl) (fun _ _ _ h => h) (Or.inl ⟨by kernel_rfl, ?_⟩) ?_
                  rotate_left
                  · intro w; go_simp; try with_reducible rfl
                  refine wpAny_take (i := 19) (v := ?_) rfl (by kernel_rfl) (by kernel_rfl) (by kernel_rfl) (fun _ _ _ h => h) (Or.inl ⟨by kernel_rfl, ?_⟩) ?_
                  rotate_left
                  · intro w; go_simp; try with_reducible rfl
                  refine wpAny_take (i := 20) (v := ?_) rfl (by kernel_rfl) (by kernel_rfl) (by kernel_rfl) (fun _ _ _ h => h) (Or.inl ⟨by kernel_rfl, ?_⟩) ?_
                  rotate_left
                  · intro w; go_simp; try with_reducible rfl
                  refine wpAny_done (by kernel_rfl) ?_ _
                  go_wp2
                  go_roundw
                  case rel => exact ⟨i + 1, 0, by go_num, by omega, rfl, HR3.out.eff (F := fun _ => False) (Eff.of_below (HKEEP.out w4 hb4) _) (fun _ _ f => f), HB3.out.trans ((HKEEP.out w4 hb4).mono hsz3)⟩
                  case measure => simp [intOf]; omega
                exact AllReady.nil
              exact AllReady.nil
            exact AllReady.nil
          · skip
            have hout : out = [] := List.eq_nil_of_length_eq_zero (by rw [HOUT.out, List.length_take, List.length_drop]; omega)
            have RUN := fun (w' : World) (hbw : Below w3.heap.size w3 w') => (fun (A : Option Addr) (c' : Nat) => run_str (P := Tryd.prog) Tryd.underlying37 Tryd.underlying5 Tryd.underlying9 (show Rd w' (.slice A 0 c') (bytesV out) from hout ▸ ⟨A, c', rfl, Nat.zero_le _, fun h => absurd h (Nat.lt_irrefl 0)⟩))
            have KEEP : ∀ w' w4 : World, Below w3.heap.size w3 w' → Below w'.heap.size w' w4 → Below w3.heap.size w3 w4 := fun w' w4 h1 h2 => h1.trans (h2.mono h1.size)
            have K0 : Below w3.heap.size w3 (w3.drewN d) := below_drewN (Below.refl _ _) d
            clear hout
            go_upto_region 18 with fail
            generalize w3.drewN d = W3 at K0 ⊢
            have K1 : Below w3.heap.size w3 W3.drew := K0.drew
            have r0 := RUN W3.drew K1
            have CW1 := CW W3.drew K1
            have HRUN := Lib.hid RUN
            have HKEEP := Lib.hid (fun w4 => KEEP W3.drew w4 K1)
            have HHB := Lib.hid hb
            clear RUN KEEP CW K1 K0
            refine wp_region_any (by kernel_rfl) ?_
            change wpAny _ _ _ _ _ _ _ (World.drew _)
            refine wpAny_take (i := 0) (v := ?_) rfl (by kernel_rfl) (by kernel_rfl) (by kernel_rfl) (fun _ _ _ h => h) (Or.inl ⟨by kernel_rfl, ?_⟩) ?_
            rotate_left
            · intro w; go_simp; try with_reducible rfl
            refine wpAny_take (i := 1) (v := ?_) rfl (by kernel_rfl) (by kernel_rfl) (by kernel_rfl) (fun _ _ _ h => h) (Or.inl ⟨by kernel_rfl, ?_⟩) ?_
            rotate_left
            · intro w; go_simp; try with_reducible rfl
            refine wpAny_take (i := 2) (v := ?_) rfl (by kernel_rfl) (by kernel_rfl) (by kernel_rfl) (fun _ _ _ h => h) (Or.inl ⟨by kernel_rfl, ?_⟩) ?_
            rotate_left
            · intro w; go_simp; try with_reducible rfl
            refine wpAny_take (i := 3) rfl (by kernel_rfl) (by kernel_rfl) (by kernel_rfl) (fun _ _ _ h => h) (Or.inr ⟨by kernel_rfl, rfl⟩) ?_
            refine wpAny_take (i := 4) rfl (by kernel_rfl) (by kernel_rfl) (by kernel_rfl) (fun _ _ _ h => h) (Or.inr ⟨by kernel_rfl, rfl⟩) ?_
            refine wpAny_take (i := 5) rfl (by kernel_rfl) (by kernel_rfl) (by kernel_rfl) (fun _ _ _ h => h) (Or.inr ⟨by kernel_rfl, rfl⟩) ?_
            refine wpAny_take (i := 6) (v := ?_) rfl (by kernel_rfl) (by kernel_rfl) (by kernel_rfl) (fun _ _ _ h => h) (Or.inl ⟨by kernel_rfl, ?_⟩) ?_
            rotate_left
            · intro w; go_simp; try with_reducible rfl
            refine wpAny_take (i := 7) (v := ?_) rfl (by kernel_rfl) (by kernel_rfl) (by kernel_rfl) (fun _ _ _ h => h) (Or.inl ⟨by kernel_rfl, ?_⟩) ?_
            rotate_left
            · intro w; go_simp; try with_reducible rfl
            refine wpAny_take (i := 8) (v := ?_) rfl (by kernel_rfl) (by kernel_rfl) (by kernel_rfl) (fun _ _ _ h => h) (Or.inl ⟨by kernel_rfl, ?_⟩) ?_
            rotate_left
            · intro w; go_simp; try with_reducible rfl
            refine wpAny_take (i := 9) (v := ?_) rfl (by kernel_rfl) (by kernel_rfl) (by kernel_rfl) (fun _ _ _ h => h) (Or.inl ⟨by kernel_rfl, ?_⟩) ?_
            rotate_left
            · intro w; go_simp; try with_reducible rfl
            refine wpAny_take (i := 10) (v := ?_) rfl (by kernel_rfl) (by kernel_rfl) (by kernel_rfl) (fun _ _ _ h => h) (Or.inl ⟨by kernel_rfl, ?_⟩) ?_
            rotate_left
            · intro w; go_simp; try with_reducible rfl
            refine wpAny_take (i := 13) (v := ?_) rfl (by kernel_rfl) (by kernel_rfl) (by kernel_rfl) (fun _ _ _ h => h) (Or.inl ⟨by kernel_rfl, ?_⟩) ?_
            rotate_left
            · intro w; go_simp; try with_reducible rfl
            refine wpAny_take (i := 14) (v := ?_) rfl (by kernel_rfl) (by kernel_rfl) (by kernel_rfl) (fun _ _ _ h => h) (Or.inl ⟨by kernel_rfl, ?_⟩) ?_
            rotate_left
            · intro w; go_simp; try with_reducible rfl
            refine wpAny_take (i := 15) (v := ?_) rfl (by kernel_rfl) (by kernel_rfl) (by kernel_rfl) (fun _ _ _ h => h) (Or.inl ⟨by kernel_rfl, ?_⟩) ?_
            rotate_left
            · intro w; go_simp; try with_reducible rfl
            refine wpAny_take (i := 16) (v := ?_) rfl (by kernel_rfl) (by kernel_rfl) (by kernel_rfl) (fun _ _ _ h => h) (Or.inl ⟨by kernel_rfl, ?_⟩) ?_
            rotate_left
            · intro w; go_simp; try with_reducible rfl
            refine wpAny_ready (rs := [11, 17]) (by kernel_rfl) (by simp) ?_
            refine AllReady.cons rfl (fun K hK => ?_) ?_
            · rw [if_pos (by kernel_rfl)]
              go_simp
              go_wp2_with (go_at_call 18; refine CW1.mono ?_; rintro e w4 ⟨v4, rfl, ho4, hb4⟩; obtain ⟨a4, n4, c4, rfl⟩ := own_sl ho4; have r4 := run_str (P := Tryd.prog) Tryd.underlying37 Tryd.underlying5 Tryd.underlying9 ho4.rd; have r5 := HRUN.out w4 (HKEEP.out w4 hb4))
              refine wpAny_ready (rs := [12, 17]) (by kernel_rfl) (by simp) ?_
              refine AllReady.cons rfl (fun K hK => ?_) ?_
              · rw [if_pos (by kernel_rfl)]
                go_simp
                refine hK _ _ ?_; clear hK K
                refine wpAny_ready (rs := [17]) (by kernel_rfl) (by simp) ?_
                refine AllReady.cons rfl (fun K hK => ?_) ?_
                · rw [if_pos (by kernel_rfl)]
                  go_simp
                  refine hK _ _ ?_; clear hK K
                  refine wpAny_take (i := 18) (v := ?_) rfl (by kernel_rfl) (by kernel_rfl) (by kernel_rfl) (fun _ _ _ h => h) (Or.inl ⟨by kernel_rfl, ?_⟩) ?_
                  rotate_left
                  · intro w; go_simp; try with_reducible rfl
                  refine wpAny_take (i := 19) (v := ?_) rfl (by kernel_rfl) (by kernel_rfl) (by kernel_rfl) (fun _ _ _ h => h) (Or.inl ⟨by kernel_rfl, ?_⟩) ?_
                  rotate_left
                  · intro w; go_simp; try with_reducible rfl
                  refine wpAny_take (i := 20) (v := ?_) rfl (by kernel_rfl) (by kernel_rfl) (by kernel_rfl) (fun _ _ _ h => h) (Or.inl ⟨by kernel_rfl, ?_⟩) ?_
                  rotate_left
                  · intro w; go_simp; try with_reducible rfl
                  refine wpAny_done (by kernel_rfl) ?_ _
                  go_wp2
                  go_roundw
                  case rel => exact ⟨i + 1, 0, by go_num, by omega, rfl, HR3.out.eff (F := fun _ => False) (Eff.of_below (HKEEP.out w4 hb4) _) (fun _ _ f => f), HB3.out.trans ((HKEEP.out w4 hb4).mono hsz3)⟩
                  case measure => simp [intOf]; omega
                exact AllReady.nil
              refine AllReady.cons rfl (fun K hK => ?_) ?_
              · rw [if_pos (by kernel_rfl)]
                go_simp
                refine hK _ _ ?_; clear hK K
                refine wpAny_ready (rs := [12]) (by kernel_rfl) (by simp) ?_
                refine AllReady.cons rfl (fun K hK => ?_) ?_
                · rw [if_pos (by kernel_rfl)]
                  go_simp
                  refine hK _ _ ?_; clear hK K
                  refine wpAny_take (i := 18) (v := ?_) rfl (by kernel_rfl) (by kernel_rfl) (by kernel_rfl) (fun _ _ _ h => h) (Or.inl ⟨by kernel_rfl, ?_⟩) ?_
                  rotate_left
                  · intro w; go_simp; try with_reducible rfl
                  refine wpAny_take (i := 19) (v := ?_) rfl (by kernel_rfl) (by kernel_rfl) (by kernel_rfl) (fun _ _ _ h => h) (Or.inl ⟨by kernel_rfl, ?_⟩) ?_
                  rotate_left
                  · intro w; go_simp; try with_reducible rfl
                  refine wpAny_take (i := 20) (v := ?_) rfl (by kernel_rfl) (by kernel_rfl) (by kernel_rfl) (fun _ _ _ h => h) (Or.inl ⟨by kernel_rfl, ?_⟩) ?_
                  rotate_left
                  · intro w; go_simp; try with_reducible rfl
                  refine wpAny_done (by kernel_rfl) ?_ _
                  go_wp2
                  go_roundw
                  case rel => exact ⟨i + 1, 0, by go_num, by omega, rfl, HR3.out.eff (F := fun _ => False) (Eff.of_below (HKEEP.out w4 hb4) _) (fun _ _ f => f), HB3.out.trans ((HKEEP.out w4 hb4).mono hsz3)⟩
                  case measure => simp [intOf]; omega
                exact AllReady.nil
              exact AllReady.nil
            refine AllReady.cons rfl (fun K hK => ?_) ?_
            · rw [if_pos (by kernel_rfl)]
              go_simp
              refine hK _ _ ?_; clear hK K
              refine wpAny_ready (rs := [11]) (by kernel_rfl) (by simp) ?_
              refine AllReady.cons rfl (fun K hK => ?_) ?_
              · rw [if_pos (by kernel_rfl)]
                go_simp
                go_wp2_with (go_at_call 18; refine CW1.mono ?_; rintro e w4 ⟨v4, rfl, ho4, hb4⟩; obtain ⟨a4, n4, c4, rfl⟩ := own_sl ho4; have r4 := run_str (P := Tryd.prog) Tryd.underlying37 Tryd.underlying5 Tryd.underlying9 ho4.rd; have r5 := HRUN.out w4 (HKEEP.out w4 hb4))
                refine wpAny_ready (rs := [12]) (by kernel_rfl) (by simp) ?_
                refine AllReady.cons rfl (fun K hK => ?_) ?_
                · rw [if_pos (by kernel_rfl)]
                  go_simp
                  refine hK _ _ ?_; clear hK K
                  refine wpAny_take (i := 18) (v := ?_) rfl (by kernel_rfl) (by kernel_rfl) (by kernel_rfl) (fun _ _ _ h => h) (Or.inl ⟨by kernel_rfl, ?_⟩) ?_
                  rotate_left
                  · intro w; go_simp; try with_reducible rfl
                  refine wpAny_take (i := 19) (v := ?_) rfl (by kernel_rfl) (by kernel_rfl) (by kernel_rfl) (fun _ _ _ h => h) (Or.inl ⟨by kernel_rfl, ?_⟩) ?_
                  rotate_left
                  · intro w; go_simp; try with_reducible rfl
                  refine wpAny_take (i := 20) (v := ?_) rfl (by kernel_rfl) (by kernel_rfl) (by kernel_rfl) (fun _ _ _ h => h) (Or.inl ⟨by kernel_rfl, ?_⟩) ?_
                  rotate_left
                  · intro w; go_simp; try with_reducible rfl
                  refine wpAny_done (by kernel_rfl) ?_ _
                  go_wp2
                  go_roundw
                  case rel => exact ⟨i + 1, 0, by go_num, by omega, rfl, HR3.out.eff (F := fun _ => False) (Eff.of_below (HKEEP.out w4 hb4) _) (fun _ _ f => f), HB3.out.trans ((HKEEP.out w4 hb4).mono hsz3)⟩
                  case measure => simp [intOf]; omega
                exact AllReady.nil
              exact AllReady.nil
            exact AllReady.nil
    · obtain rfl : i = ops.length := by omega
      go_wp2
      go_ret
      exact ⟨rfl, hb⟩
end Go.Proofs.YtmmflhippbegaaaDoor
