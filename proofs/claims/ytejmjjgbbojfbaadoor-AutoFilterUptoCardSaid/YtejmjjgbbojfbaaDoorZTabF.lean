/- auto: table. -/
import Derived.Test.YtejmjjgbbojfbaaDoorZG26
import Derived.Test.YtejmjjgbbojfbaaDoorZG29
import Derived.Maps.RangeWalk
namespace Go.Proofs.YtejmjjgbbojfbaaDoor
set_option linter.unusedVariables false
open Go.ChangeShapes Go.WideShapes Go.ChangeAt Go.RowKit

/-- What table answers. -/
def TablePost (w : World) (H : Tab) (e : Ending) (w' : World) : Prop := ∃ (A X : Option Addr) (ca cx N : Nat), e = .returned (.agg #[.int .i64 0, .slice A N ca, .slice X (256 * N) cx]) ∧ TabAt w' w.heap.size A X ca cx (metTab H (mts H (256 * N))) ∧ (mts H (256 * N)).length = N ∧ Walked H N ∧ 0 < N ∧ N ≤ H.n ∧ Below w.heap.size w w'
set_option maxRecDepth 100000 in
set_option maxHeartbeats 4000000 in
theorem table_any (w : World) (B g : Nat) (nv av : Value) (H : Tab) (h : GraphAt w B g nv av H) (hn : H.n ≤ 1024) (hn0 : 0 < H.n) (hr : ∀ s c, s < H.n → c < 256 → H.nx s c < H.n) :
    Calls Tryd.prog 54 #[.pointer (some ⟨g, 0, none⟩)] w (TablePost w H) := by
  have HG := Lib.hid (show ∀ X, Below w.heap.size w X → GraphAt X B g nv av H from fun X e => h.below e (Nat.le_refl _))
  have HR := Lib.hid hr
  obtain ⟨nga, ngc, hnv, hnc, -⟩ := h.at_
  obtain ⟨aga, agc, hav, hac, -⟩ := h.accAt
  subst hnv hav
  have hb1 : Below w.heap.size w (w.alloc (.cells #[.int .i64 0, .slice none 0 0, .slice none 0 0] 54)) := (Below.refl _ _).alloc (Nat.le_refl _) _
  have hr1 := heap_alloc_new w (.cells #[.int .i64 0, .slice none 0 0, .slice none 0 0] 54)
  have g0 : (w.alloc (.cells #[.int .i64 0, .slice none 0 0, .slice none 0 0] 54)).cell? ⟨g, 0, none⟩ = some (.slice nga H.n ngc) := blk_cell (HG.out _ hb1).blk 0
  have HB1 := Lib.hid hb1
  have HR1 := Lib.hid hr1
  have hmk := fun X => make_row elIntG rfl H.n (by omega) (H.n : Int) rfl X
  clear h hr hb1 hr1
  go_enter Tryd.func54, Tryd.ntmps54
  go_upto_region 1 with fail
  generalize w.alloc (.cells #[.int .i64 0, .slice none 0 0, .slice none 0 0] 54) = W at g0 HB1 HR1 ⊢
  have hk0 := own_make_ints W H.n (by omega)
  have hB2 := HB1.out.alloc HB1.out.size (.cells (madeCells #[.int .i64 0] H.n) 3)
  have hR2 := (Below.heap_alloc W (.cells (madeCells #[.int .i64 0] H.n) 3) w.heap.size (lt_of_heap HR1.out)).trans HR1.out
  have HK0 := Lib.hid (own_to (own_base hk0 HB1.out.size) ((intsV_I _ _).trans (intsI_congr (g := fun k => if k < 0 then -1 else 0) (fun i _ => by rw [if_neg (by omega)]; rfl))))
  have HB2 := Lib.hid hB2
  have HR2 := Lib.hid hR2
  clear hk0 hB2 hR2 HB1 HR1
  go_upto_region 3 with fail
  generalize W.alloc (.cells (madeCells #[.int .i64 0] H.n) 3) = W2 at HK0 HB2 HR2 ⊢
  generalize W.heap.size = kb at HK0 ⊢
  clear g0 hmk
  obtain ⟨rs, hrs⟩ : ∃ rs, rs = w.heap.size := ⟨_, rfl⟩
  rw [← hrs] at HR2 ⊢
  have hrs1 : w.heap.size ≤ rs := by omega
  have hrs2 : rs < w.heap.size + 1 := by omega
  clear hrs
  go_loopw [22] (fun s22 wr => ∃ (i : Nat), s22 = .int .i64 (i : Nat) ∧ i ≤ H.n ∧ RowKit.Hid (Own wr w.heap.size 3 (.slice (some ⟨kb, 0, none⟩) H.n H.n) (intsI (fun k => if k < i then -1 else 0) H.n)) ∧ RowKit.Hid (Below w.heap.size w wr ∧ wr.heap[rs]? = some (.cells #[.int .i64 0, .slice none 0 0, .slice none 0 0] 54 (0, 0)))) (fun s22 _ => H.n - (intOf s22).toNat)
  case atStart => exact ⟨0, rfl, Nat.zero_le _, HK0, Lib.hid ⟨HB2.out, HR2.out⟩⟩
  case round =>
    clear HK0 HB2 HR2
    obtain ⟨i, rfl, hi, HK, HB⟩ := hrel
    by_cases hlt : i < H.n
    · have k1 : wr.cell? ⟨kb, i, none⟩ = some (.int .i64 (if i < i then -1 else 0)) := HK.out.get (intsI_get _ _ _ hlt)
      have f1 := HK.out.frozen i
      have i1 : (i : Int) < (H.n : Int) := by omega
      have hk1 := HK.out.set i (.int .i64 (-1))
      rw [intsI_set] at hk1
      have HK1 := Lib.hid (own_to hk1 (intsI_congr (g := fun k => if k < i + 1 then -1 else 0) (fun k _ => by
        by_cases e : k = i
        · rw [if_pos e, if_pos (by omega)]
        · rw [if_neg e]
          by_cases e2 : k < i
          · rw [if_pos e2, if_pos (by omega)]
          · rw [if_neg e2, if_neg (by omega)])))
      have hne : rs ≠ kb := fun e => HK.out.ne_type HB.out.2 (by decide) (by rw [e]; rfl)
      have HB1 := Lib.hid (And.intro (HB.out.1.setCell (p := ⟨kb, i, none⟩) (HK.out.lt kb rfl).1 (.int .i64 (-1))) ((Below.heap_setCell wr ⟨kb, i, none⟩ (.int .i64 (-1)) rs hne).trans HB.out.2))
      clear hk1 HK HB hne
      go_wp2
      go_roundw
      case rel => exact ⟨i + 1, by go_num, by omega, HK1, HB1⟩
      case measure => simp [intOf]; omega
    · obtain rfl : i = H.n := by omega
      have k1 : wr.cell? ⟨kb, 0, none⟩ = some (.int .i64 (if 0 < H.n then -1 else 0)) := HK.out.get (intsI_get _ _ _ hn0)
      have f1 := HK.out.frozen 0
      have hk1 := HK.out.set 0 (.int .i64 0)
      rw [intsI_set] at hk1
      have hk2 := own_to hk1 (intsI_congr (g := nmI [0]) (fun k hk => by
        rw [nmI_one]
        by_cases e : k = 0
        · rw [if_pos e, if_pos e]
        · rw [if_neg e, if_neg e, if_pos hk]))
      have hne : rs ≠ kb := fun e => HK.out.ne_type HB.out.2 (by decide) (by rw [e]; rfl)
      have hb2 := HB.out.1.setCell (p := ⟨kb, 0, none⟩) (HK.out.lt kb rfl).1 (.int .i64 0)
      have hr2 := (Below.heap_setCell wr ⟨kb, 0, none⟩ (.int .i64 0) rs hne).trans HB.out.2
      have hme := own_one (wr.setCell ⟨kb, 0, none⟩ (.int .i64 0)) w.heap.size 3 (.int .i64 0) hb2.size
      have hk3 := hk2.alloc (.cells #[.int .i64 0] 3)
      have hb3 := hb2.alloc hb2.size (.cells #[.int .i64 0] 3)
      have hr3 := (Below.heap_alloc (wr.setCell ⟨kb, 0, none⟩ (.int .i64 0)) (.cells #[.int .i64 0] 3) rs (lt_of_heap hr2)).trans hr2
      have hsep : (wr.setCell ⟨kb, 0, none⟩ (.int .i64 0)).heap.size ≠ kb := fun e => by have := (hk2.lt kb rfl).2; omega
      have hS : TbS w ((wr.setCell ⟨kb, 0, none⟩ (.int .i64 0)).alloc (.cells #[.int .i64 0] 3)) rs kb H (.slice (some ⟨(wr.setCell ⟨kb, 0, none⟩ (.int .i64 0)).heap.size, 0, none⟩) 1 1) [0] := ⟨hk3, hme, fun e => hsep (Option.some.inj e), hr3, hb3⟩
      have hzs : (wr.setCell ⟨kb, 0, none⟩ (.int .i64 0)).heap.size = wr.heap.size := by simp
      rw [hzs] at hS
      have HS := Lib.hid hS
      clear hk1 hk2 hne hb2 hr2 hme hk3 hb3 hr3 hsep HK HB hzs hS
      go_upto_region 10 with fail
      generalize (wr.setCell ⟨kb, 0, none⟩ (.int .i64 0)).alloc (.cells #[.int .i64 0] 3) = W3 at HS ⊢
      generalize wr.heap.size = m0 at HS ⊢
      clear k1 f1
      go_loopw [5, 6] (fun s5 s6 wr => ∃ (i : Nat) (A : Option Addr) (C : Nat), s5 = .slice A (mts H (256 * i)).length C ∧ s6 = .int .i64 (i : Nat) ∧ i ≤ H.n ∧ RowKit.Hid (TbS w wr rs kb H (.slice A (mts H (256 * i)).length C) (mts H (256 * i))) ∧ RowKit.Hid (∀ s, s < i → s < (mts H (256 * s)).length)) (fun _ s6 _ => H.n + 1 - (intOf s6).toNat)
      case atStart => exact ⟨0, some ⟨m0, 0, none⟩, 1, rfl, rfl, Nat.zero_le _, HS, Lib.hid (fun s hs => absurd hs (Nat.not_lt_zero _))⟩
      case round =>
        clear HS
        obtain ⟨i, A, C, rfl, rfl, hi, HS, HW⟩ := hrel
        have hml := mts_len hn0 HR.out (256 * i)
        obtain ⟨l, hl⟩ : ∃ l, mts H (256 * i) = l := ⟨_, rfl⟩
        rw [hl] at HS hml ⊢
        have HL := Lib.hid hl
        clear hl
        by_cases hlt : i < l.length
        · obtain ⟨mb, rfl⟩ := HS.out.met.someAt (by omega)
          have m1 : wr.cell? ⟨mb, i, none⟩ = some (.int .i64 ((l[i] : Nat) : Int)) := HS.out.met.get (natsV_get hlt)
          have hxn : l[i] < H.n := mts_rng H hn0 HR.out (256 * i) _ (by rw [HL.out]; exact List.getElem_mem hlt)
          have hxd : l.getD i 0 = l[i] := by simp [List.getD, hlt]
          obtain ⟨x, hx⟩ : ∃ x, l[i] = x := ⟨_, rfl⟩
          rw [hx] at m1 hxn hxd
          have hgr := HG.out wr HS.out.bl
          have g0 : wr.cell? ⟨g, 0, none⟩ = some (.slice nga H.n ngc) := blk_cell hgr.blk 0
          obtain ⟨gb, gc, hv, -, -, -, hrg⟩ := hgr.range hxn
          injection hv with e1 e2 e3
          subst e1 e3
          have HXD := Lib.hid hxd
          have i1 : (i : Int) < (l.length : Int) := by omega
          have i2 : (x : Int) < (H.n : Int) := by omega
          have hS0 : wr.drew.cell? ⟨g, 0, none⟩ = some (.slice (some ⟨gb, 0, none⟩) H.n ngc) ∧ wr.drew.cell? ⟨mb, i, none⟩ = some (.int .i64 ((x : Nat) : Int)) ∧ wr.drew.rangeAt gb (x * 256) (rowV (H.nx x)) := ⟨g0, m1, hrg⟩
          have HSD := Lib.hid HS.out.drew
          clear hx hxd hgr g0 m1 hrg e2 HS
          go_upto_region 12 with fail
          refine wp_region_noPanic ?_
          refine wp_region_held_drew (S := fun X => X.cell? ⟨g, 0, none⟩ = some (.slice (some ⟨gb, 0, none⟩) H.n ngc) ∧ X.cell? ⟨mb, i, none⟩ = some (.int .i64 ((x : Nat) : Int)) ∧ X.rangeAt gb (x * 256) (rowV (H.nx x))) (by kernel_rfl) hS0 (fun hHeld => ?_)
          refine wpAnyH_take (i := 0) (v := ?_) rfl (by kernel_rfl) (by kernel_rfl) (by kernel_rfl) (fun _ _ _ h => h) (Or.inl ⟨by kernel_rfl, ?_⟩) hHeld ?_
          rotate_left
          · intro w hSw
            obtain ⟨z1, z2, -⟩ := hSw
            go_simp
            try with_reducible rfl
          refine wpAnyH_take (i := 1) (v := ?_) rfl (by kernel_rfl) (by kernel_rfl) (by kernel_rfl) (fun _ _ _ h => h) (Or.inl ⟨by kernel_rfl, ?_⟩) hHeld ?_
          rotate_left
          · intro w hSw
            obtain ⟨z1, z2, -⟩ := hSw
            go_simp
            try with_reducible rfl
          refine wpAnyH_take (i := 2) (v := ?_) rfl (by kernel_rfl) (by kernel_rfl) (by kernel_rfl) (fun _ _ _ h => h) (Or.inl ⟨by kernel_rfl, ?_⟩) hHeld ?_
          rotate_left
          · intro w hSw
            obtain ⟨z1, z2, -⟩ := hSw
            go_simp
            try with_reducible rfl
          refine wpAnyH_take (i := 3) (v := ?_) rfl (by kernel_rfl) (by kernel_rfl) (by kernel_rfl) (fun _ _ _ h => h) (Or.inl ⟨by kernel_rfl, ?_⟩) hHeld ?_
          rotate_left
          · intro w hSw
            obtain ⟨z1, z2, -⟩ := hSw
            go_simp
            try with_reducible rfl
          refine wpAnyH_take (i := 4) (v := ?_) rfl (by kernel_rfl) (by kernel_rfl) (by kernel_rfl) (fun _ _ _ h => h) (Or.inl ⟨by kernel_rfl, ?_⟩) hHeld ?_
          rotate_left
          · intro w hSw
            obtain ⟨z1, z2, -⟩ := hSw
            go_simp
            try with_reducible rfl
          refine wpAnyH_take (i := 5) (v := ?_) rfl (by kernel_rfl) (by kernel_rfl) (by kernel_rfl) (fun _ _ _ h => h) (Or.inl ⟨by kernel_rfl, ?_⟩) hHeld ?_
          rotate_left
          · intro w hSw
            obtain ⟨z1, z2, -⟩ := hSw
            go_simp
            try with_reducible rfl
          refine wpAnyH_take (i := 6) (v := ?_) rfl (by kernel_rfl) (by kernel_rfl) (by kernel_rfl) (fun _ _ _ h => h) (Or.inl ⟨by kernel_rfl, ?_⟩) hHeld ?_
          rotate_left
          · intro w hSw
            obtain ⟨z1, z2, -⟩ := hSw
            go_simp
            try with_reducible rfl
          refine wpAnyH_take (i := 7) (v := ?_) rfl (by kernel_rfl) (by kernel_rfl) (by kernel_rfl) (fun _ _ _ h => h) (Or.inl ⟨by kernel_rfl, ?_⟩) hHeld ?_
          rotate_left
          · intro w hSw
            obtain ⟨z1, z2, -⟩ := hSw
            go_simp
            try with_reducible rfl
          refine wpAnyH_take (i := 8) (v := ?_) rfl (by kernel_rfl) (by kernel_rfl) (by kernel_rfl) (fun _ _ _ h => h) (Or.inl ⟨by kernel_rfl, ?_⟩) hHeld ?_
          rotate_left
          · intro w hSw
            obtain ⟨z1, z2, -⟩ := hSw
            go_simp
            try with_reducible rfl
          refine wpAnyH_take (i := 9) rfl (by kernel_rfl) (by kernel_rfl) (by kernel_rfl) (fun _ _ _ h => h) (yieldsIf_load_mid (by kernel_rfl) 136 (.tmp 46) rfl gb (x * 256) (by kernel_rfl) (rowV (H.nx x)) _ (fun w hw => hw.2.2) Tryd.underlying136 rfl (by rw [rowV_length]; exact arr_size)) hHeld ?_
          refine wpAnyH_take (i := 10) (v := ?_) rfl (by kernel_rfl) (by kernel_rfl) (by kernel_rfl) (fun _ _ _ h => h) (Or.inl ⟨by kernel_rfl, ?_⟩) hHeld ?_
          rotate_left
          · intro w hSw
            go_simp
            try with_reducible rfl
          clear hHeld hS0
          refine wpAnyH_done (by kernel_rfl) ?_ _
          refine NoPanic.normal ?_
          generalize World.drew wr = X0 at HSD ⊢
          go_wp2_with fail
          go_simp
          have hl0 : mts H (256 * i + 0) = l := HL.out
          go_loopw [5, 48] (fun s5 s48 wr => ∃ (c : Nat) (A : Option Addr) (C : Nat), s5 = .slice A (mts H (256 * i + c)).length C ∧ s48 = .int .i64 (c : Nat) ∧ c ≤ 256 ∧ RowKit.Hid (TbS w wr rs kb H (.slice A (mts H (256 * i + c)).length C) (mts H (256 * i + c)))) (fun _ s48 _ => 256 - (intOf s48).toNat)
          case atStart => exact ⟨0, some ⟨mb, 0, none⟩, C, by rw [hl0], rfl, Nat.zero_le _, Lib.hid (by rw [hl0]; exact HSD.out)⟩
          case round =>
            clear HSD hl0
            obtain ⟨c, A2, C2, rfl, rfl, hc, HS⟩ := hrel
            have hml2 := mts_len hn0 HR.out (256 * i + c)
            have hpre := mts_mono H (show 256 * i ≤ 256 * i + c by omega)
            rw [HL.out] at hpre
            obtain ⟨l2, hl2⟩ : ∃ l2, mts H (256 * i + c) = l2 := ⟨_, rfl⟩
            rw [hl2] at HS hml2 hpre ⊢
            by_cases hc256 : c < 256
            · have hnn := HR.out x c hxn hc256
              have hnxa : nxAt H l2 (256 * i + c) = H.nx x c := by
                unfold nxAt
                rw [show (256 * i + c) / 256 = i by omega, show (256 * i + c) % 256 = c by omega, prefix_getD hpre hlt, HXD.out]
              have hstep : mts H (256 * i + (c + 1)) = mtStep H l2 (256 * i + c) := by rw [← hl2]; rfl
              unfold mtStep at hstep
              rw [hnxa] at hstep
              obtain ⟨n, hnx⟩ : ∃ n, H.nx x c = n := ⟨_, rfl⟩
              have hix : ∀ X, (Instr.index 136 (.agg (rowV (H.nx x)).toArray) (.int .i64 (c : Nat))).run Tryd.prog X = .ok (.int .i64 ((n : Nat) : Int)) X := fun X => by rw [← hnx]; exact run_index_arr X (H.nx x) hc256
              rw [hnx] at hnn hstep
              have k1 : wr.cell? ⟨kb, n, none⟩ = some (.int .i64 (nmI l2 n)) := HS.out.num.get (intsI_get _ _ _ hnn)
              have i3 : (n : Int) < (H.n : Int) := by omega
              by_cases hmem : n ∈ l2
              · rw [if_pos hmem] at hstep
                obtain ⟨k, hk⟩ : ∃ k, l2.idxOf n = k := ⟨_, rfl⟩
                have hnm : nmI l2 n = (k : Int) := by unfold nmI; rw [if_pos hmem, hk]
                rw [hnm] at k1
                have t1 : decide ((k : Int) < 0) = false := decide_eq_false (by omega)
                have HST := Lib.hid hstep
                clear hstep hnm hk hmem hnxa hl2 hpre hnx
                go_wp2
                go_roundw
                case rel => exact ⟨c + 1, A2, C2, by rw [HST.out], by go_num, by omega, Lib.hid (by rw [HST.out]; exact HS.out)⟩
                case measure => simp [intOf]; omega
              · rw [if_neg hmem] at hstep
                have hnm : nmI l2 n = -1 := by unfold nmI; rw [if_neg hmem]
                rw [hnm] at k1
                have f1 := HS.out.num.frozen n
                obtain ⟨p1, p2, p3, p4⟩ := HS.out.put hmem
                have hl5 : (natsV l2).length < 1000000000000 := by rw [natsV_length]; omega
                have hz5 := p4.size
                have HST := Lib.hid hstep
                have P1 := Lib.hid p1
                have P2 := Lib.hid p2
                have P3 := Lib.hid p3
                have P4 := Lib.hid p4
                have HL5 := Lib.hid hl5
                have HSEP := Lib.hid HS.out.sep
                clear hstep hnm hnxa hl2 hpre hnx p1 p2 p3 p4 hl5 hmem
                go_upto_region 17 with fail
                generalize wr.setCell ⟨kb, n, none⟩ (.int .i64 ((l2.length : Nat) : Int)) = W5 at P1 P2 P3 P4 hz5 ⊢
                clear k1 f1 hix
                go_wp2_with (at_builtin; with_reducible refine ap1' elIntG rfl P2.out HL5.out hz5 rfl _ _ rfl rfl rfl ?_)
                intro v6 w6 g1 g2 g3 g4
                obtain ⟨A7, C7, hv7⟩ := own_slice g1
                rw [List.length_append, natsV_length, List.length_singleton] at hv7
                subst hv7
                have hS6 := TbS.app P1.out P2.out HSEP.out P3.out P4.out g1 g3 g4
                have HS6 := Lib.hid hS6
                clear g1 g2 g3 g4 hS6 hz5
                go_wp2
                go_roundw
                case rel => exact ⟨c + 1, A7, C7, by rw [HST.out, List.length_append, List.length_singleton], by go_num, by omega, Lib.hid (by rw [HST.out, List.length_append, List.length_singleton]; exact HS6.out)⟩
                case measure => simp [intOf]; omega
            · obtain rfl : c = 256 := by omega
              have hl1 : mts H (256 * (i + 1)) = l2 := by rw [← hl2]; rfl
              have HL1 := Lib.hid hl1
              have hw2 : ∀ s, s < i + 1 → s < (mts H (256 * s)).length := fun s hs => by
                by_cases e : s = i
                · rw [e, HL.out]; exact hlt
                · exact HW.out s (by omega)
              have HW2 := Lib.hid hw2
              clear hl1 hl2 hpre hw2
              go_wp2
              go_roundw
              case rel => exact ⟨i + 1, A2, C2, by rw [HL1.out], by go_num, by omega, Lib.hid (by rw [HL1.out]; exact HS.out), HW2⟩
              case measure => simp [intOf]; omega
        · have hlen : l.length = i := by
            by_cases h0 : i = 0
            · have h1 := (mts_mono H (Nat.zero_le (256 * i))).length_le
              rw [HL.out] at h1
              have h2 : (mts H 0).length = 1 := rfl
              omega
            · have h2 := HW.out (i - 1) (by omega)
              have h3 := (mts_mono H (show 256 * (i - 1) ≤ 256 * i by omega)).length_le
              rw [HL.out] at h3
              omega
          have hi0 : 0 < i := by
            have h1 := (mts_mono H (Nat.zero_le (256 * i))).length_le
            rw [HL.out] at h1
            have h2 : (mts H 0).length = 1 := rfl
            omega
          have hwk : Walked H i := ⟨HW.out, by rw [HL.out]; exact hlen⟩
          subst hlen
          obtain ⟨wo, rfl⟩ : ∃ wo : World, wo = wr := ⟨_, rfl⟩
          have hmkA := fun X => make_row elBoolG rfl l.length (by omega) (l.length : Int) rfl X
          have hmkN := fun X => make_row elIntG rfl (256 * l.length) (by omega) (256 * (l.length : Int)) (by omega) X
          have w256 : IntKind.i64.wrap (256 * (l.length : Int)) = 256 * (l.length : Int) := by rw [IntKind.wrap_i64]; omega
          have hSD := HS.out.drew
          have HWK := Lib.hid hwk
          clear hwk HS HW
          go_upto_region 19 with fail
          go_cut [9] (fun s9 wx => ∃ (tb ab xb : Nat), s9 = .pointer (some ⟨tb, 0, none⟩) ∧ RowKit.Hid (TcS w wx rs kb tb ab xb H (.slice A l.length C) l 0 0))
          case first =>
            refine wp_region_noPanic ?_
            refine wp_region_held_drew (S := fun _ => True) (by kernel_rfl) trivial (fun hHeld => ?_)
            refine wpAnyH_take (i := 0) (v := ?_) rfl (by kernel_rfl) (by kernel_rfl) (by kernel_rfl) (fun _ _ _ h => h) (Or.inl ⟨by kernel_rfl, ?_⟩) hHeld ?_
            rotate_left
            · intro w hSw
              go_simp
              try with_reducible rfl
            refine wpAnyH_take (i := 1) (v := ?_) rfl (by kernel_rfl) (by kernel_rfl) (by kernel_rfl) (fun _ _ _ h => h) (Or.inl ⟨by kernel_rfl, ?_⟩) hHeld ?_
            rotate_left
            · intro w hSw
              go_simp
              try with_reducible rfl
            refine wpAnyH_take (i := 3) (v := ?_) rfl (by kernel_rfl) (by kernel_rfl) (by kernel_rfl) (fun _ _ _ h => h) (Or.inl ⟨by kernel_rfl, ?_⟩) hHeld ?_
            rotate_left
            · intro w hSw
              go_simp
              try with_reducible rfl
            refine wpAnyH_take (i := 4) (v := ?_) rfl (by kernel_rfl) (by kernel_rfl) (by kernel_rfl) (fun _ _ _ h => h) (Or.inl ⟨by kernel_rfl, ?_⟩) hHeld ?_
            rotate_left
            · intro w hSw
              go_simp
              try with_reducible rfl
            refine wpAnyH_take (i := 5) (v := ?_) rfl (by kernel_rfl) (by kernel_rfl) (by kernel_rfl) (fun _ _ _ h => h) (Or.inl ⟨by kernel_rfl, ?_⟩) hHeld ?_
            rotate_left
            · intro w hSw
              go_simp
              try with_reducible rfl
            have hS0 := hSD
            clear hSD
            generalize World.drew wo = X0 at hS0 hHeld ⊢
            refine wpAnyH_ready (rs := [2, 6, 8]) (by kernel_rfl) (by simp) ?_
            refine AllReadyH.cons rfl (fun KK hKK => ?_) ?_
            ·
              have hS1 := hS0.alloc (.cells (madeCells #[Value.bool false] l.length) 4)
              have hA := own_base (own_make_bools X0 l.length (by omega)) hS0.bl.size
              rw [if_pos (by kernel_rfl)]
              go_simp
              refine hKK.out _ _ trivial (fun hHeld => ?_)
              clear hKK KK hS0
              generalize X0.alloc (.cells (madeCells #[Value.bool false] l.length) 4) = X1 at hS1 hA hHeld ⊢
              generalize X0.heap.size = ab at hA ⊢
              refine wpAnyH_ready (rs := [6, 8]) (by kernel_rfl) (by simp) ?_
              refine AllReadyH.cons rfl (fun KK hKK => ?_) ?_
              ·
                have hS2 := hS1.alloc (.cells (madeCells #[Value.int .i64 0] (256 * l.length)) 3)
                have hA := hA.alloc (.cells (madeCells #[Value.int .i64 0] (256 * l.length)) 3)
                have hN := own_base (own_make_ints X1 (256 * l.length) (by omega)) hS1.bl.size
                have hKX : kb ≠ X1.heap.size := by have h1 := (hS1.num.lt kb rfl).2; omega
                have hMX : (Value.slice A l.length C).ownBlock ≠ some X1.heap.size := fun e => by have h1 := (hS1.met.lt _ e).2; omega
                rw [if_pos (by kernel_rfl)]
                go_simp
                refine hKK.out _ _ trivial (fun hHeld => ?_)
                clear hKK KK hS1
                generalize X1.alloc (.cells (madeCells #[Value.int .i64 0] (256 * l.length)) 3) = X2 at hS2 hA hN hHeld ⊢
                generalize X1.heap.size = xb at hN hKX hMX ⊢
                refine wpAnyH_take (i := 7) (v := ?_) rfl (by kernel_rfl) (by kernel_rfl) (by kernel_rfl) (fun _ _ _ h => h) (Or.inl ⟨by kernel_rfl, ?_⟩) hHeld ?_
                rotate_left
                · intro w hSw
                  go_simp
                  try with_reducible rfl
                refine wpAnyH_ready (rs := [8]) (by kernel_rfl) (by simp) ?_
                refine AllReadyH.cons rfl (fun KK hKK => ?_) ?_
                rotate_left
                · exact AllReadyH.nil
                have hS3 := hS2.alloc (.cells #[.int .i64 0, .slice none 0 0, .slice none 0 0] 54)
                have hA := hA.alloc (.cells #[.int .i64 0, .slice none 0 0, .slice none 0 0] 54)
                have hN := hN.alloc (.cells #[.int .i64 0, .slice none 0 0, .slice none 0 0] 54)
                have hT := heap_alloc_new X2 (.cells #[.int .i64 0, .slice none 0 0, .slice none 0 0] 54)
                have hT2 : w.heap.size < X2.heap.size := by have h1 := lt_of_heap hS2.res; omega
                rw [if_pos (by kernel_rfl)]
                go_simp
                refine hKK.out _ _ trivial (fun hHeld => ?_)
                clear hKK KK hS2
                generalize X2.alloc (.cells #[.int .i64 0, .slice none 0 0, .slice none 0 0] 54) = X3 at hS3 hA hN hT hHeld ⊢
                generalize X2.heap.size = tb at hT hT2 ⊢
                have p0 : X3.cell? ⟨tb, 0, none⟩ = some (.int .i64 0) := blk_cell hT 0
                have p1 : X3.cell? ⟨tb, 1, none⟩ = some (.slice none 0 0) := blk_cell hT 1
                have p2 : X3.cell? ⟨tb, 2, none⟩ = some (.slice none 0 0) := blk_cell hT 2
                have f0 := blk_frozen hT 0
                have f1 := blk_frozen hT 1
                have f2 := blk_frozen hT 2
                refine wpAnyH_ready (rs := [9]) (by kernel_rfl) (by simp) ?_
                refine AllReadyH.cons rfl (fun KK hKK => ?_) ?_
                rotate_left
                · exact AllReadyH.nil
                rw [if_pos (by kernel_rfl)]
                go_simp
                refine hKK.out _ _ trivial (fun hHeld => ?_)
                clear hKK KK p0 p1 p2 f0 f1 f2 hHeld
                refine wpAnyH_done (by kernel_rfl) ?_ _
                refine NoPanic.normal ?_
                go_wp2_with fail
                go_meet
                have hrt : rs ≠ tb := by omega
                have t1 := blk_set hT 0 (.int .i64 0)
                have t2 := blk_set t1 1 (.slice (some ⟨ab, 0, none⟩) l.length l.length)
                have t3 := blk_set t2 2 (.slice (some ⟨xb, 0, none⟩) (256 * l.length) (256 * l.length))
                have hA3 := ((hA.setOther (p := ⟨tb, 0, none⟩) (hA.ne_type hT (by decide)) (.int .i64 0)).setOther (p := ⟨tb, 1, none⟩) (hA.ne_type hT (by decide)) (.slice (some ⟨ab, 0, none⟩) l.length l.length)).setOther (p := ⟨tb, 2, none⟩) (hA.ne_type hT (by decide)) (.slice (some ⟨xb, 0, none⟩) (256 * l.length) (256 * l.length))
                have hN3 := ((hN.setOther (p := ⟨tb, 0, none⟩) (hN.ne_type hT (by decide)) (.int .i64 0)).setOther (p := ⟨tb, 1, none⟩) (hN.ne_type hT (by decide)) (.slice (some ⟨ab, 0, none⟩) l.length l.length)).setOther (p := ⟨tb, 2, none⟩) (hN.ne_type hT (by decide)) (.slice (some ⟨xb, 0, none⟩) (256 * l.length) (256 * l.length))
                have hS5 := ((hS3.setT hT hrt (by omega) 0 (.int .i64 0)).setT t1 hrt (by omega) 1 (.slice (some ⟨ab, 0, none⟩) l.length l.length)).setT t2 hrt (by omega) 2 (.slice (some ⟨xb, 0, none⟩) (256 * l.length) (256 * l.length))
                exact ⟨tb, ab, xb, rfl, Lib.hid ⟨hS5, t3, hT2, own_to hA3 (List.map_congr_left fun q _ => by rw [if_neg (by omega)]), own_to hN3 (intsV_congr fun q _ => by rw [if_neg (by omega)]), hKX, hMX⟩⟩
              refine AllReadyH.cons rfl (fun KK hKK => ?_) ?_
              ·
                have hS2 := hS1.alloc (.cells #[.int .i64 0, .slice none 0 0, .slice none 0 0] 54)
                have hA := hA.alloc (.cells #[.int .i64 0, .slice none 0 0, .slice none 0 0] 54)
                have hT := heap_alloc_new X1 (.cells #[.int .i64 0, .slice none 0 0, .slice none 0 0] 54)
                have hT2 : w.heap.size < X1.heap.size := by have h1 := lt_of_heap hS1.res; omega
                rw [if_pos (by kernel_rfl)]
                go_simp
                refine hKK.out _ _ trivial (fun hHeld => ?_)
                clear hKK KK hS1
                generalize X1.alloc (.cells #[.int .i64 0, .slice none 0 0, .slice none 0 0] 54) = X2 at hS2 hA hT hHeld ⊢
                generalize X1.heap.size = tb at hT hT2 ⊢
                refine wpAnyH_ready (rs := [6]) (by kernel_rfl) (by simp) ?_
                refine AllReadyH.cons rfl (fun KK hKK => ?_) ?_
                rotate_left
                · exact AllReadyH.nil
                have hS3 := hS2.alloc (.cells (madeCells #[Value.int .i64 0] (256 * l.length)) 3)
                have hA := hA.alloc (.cells (madeCells #[Value.int .i64 0] (256 * l.length)) 3)
                have hT := heap_al (o2 := .cells (madeCells #[Value.int .i64 0] (256 * l.length)) 3) hT
                have hN := own_base (own_make_ints X2 (256 * l.length) (by omega)) hS2.bl.size
                have hKX : kb ≠ X2.heap.size := by have h1 := (hS2.num.lt kb rfl).2; omega
                have hMX : (Value.slice A l.length C).ownBlock ≠ some X2.heap.size := fun e => by have h1 := (hS2.met.lt _ e).2; omega
                rw [if_pos (by kernel_rfl)]
                go_simp
                refine hKK.out _ _ trivial (fun hHeld => ?_)
                clear hKK KK hS2
                generalize X2.alloc (.cells (madeCells #[Value.int .i64 0] (256 * l.length)) 3) = X3 at hS3 hA hT hN hHeld ⊢
                generalize X2.heap.size = xb at hN hKX hMX ⊢
                refine wpAnyH_take (i := 7) (v := ?_) rfl (by kernel_rfl) (by kernel_rfl) (by kernel_rfl) (fun _ _ _ h => h) (Or.inl ⟨by kernel_rfl, ?_⟩) hHeld ?_
                rotate_left
                · intro w hSw
                  go_simp
                  try with_reducible rfl
                have p0 : X3.cell? ⟨tb, 0, none⟩ = some (.int .i64 0) := blk_cell hT 0
                have p1 : X3.cell? ⟨tb, 1, none⟩ = some (.slice none 0 0) := blk_cell hT 1
                have p2 : X3.cell? ⟨tb, 2, none⟩ = some (.slice none 0 0) := blk_cell hT 2
                have f0 := blk_frozen hT 0
                have f1 := blk_frozen hT 1
                have f2 := blk_frozen hT 2
                refine wpAnyH_ready (rs := [9]) (by kernel_rfl) (by simp) ?_
                refine AllReadyH.cons rfl (fun KK hKK => ?_) ?_
                rotate_left
                · exact AllReadyH.nil
                rw [if_pos (by kernel_rfl)]
                go_simp
                refine hKK.out _ _ trivial (fun hHeld => ?_)
                clear hKK KK p0 p1 p2 f0 f1 f2 hHeld
                refine wpAnyH_done (by kernel_rfl) ?_ _
                refine NoPanic.normal ?_
                go_wp2_with fail
                go_meet
                have hrt : rs ≠ tb := by omega
                have t1 := blk_set hT 0 (.int .i64 0)
                have t2 := blk_set t1 1 (.slice (some ⟨ab, 0, none⟩) l.length l.length)
                have t3 := blk_set t2 2 (.slice (some ⟨xb, 0, none⟩) (256 * l.length) (256 * l.length))
                have hA3 := ((hA.setOther (p := ⟨tb, 0, none⟩) (hA.ne_type hT (by decide)) (.int .i64 0)).setOther (p := ⟨tb, 1, none⟩) (hA.ne_type hT (by decide)) (.slice (some ⟨ab, 0, none⟩) l.length l.length)).setOther (p := ⟨tb, 2, none⟩) (hA.ne_type hT (by decide)) (.slice (some ⟨xb, 0, none⟩) (256 * l.length) (256 * l.length))
                have hN3 := ((hN.setOther (p := ⟨tb, 0, none⟩) (hN.ne_type hT (by decide)) (.int .i64 0)).setOther (p := ⟨tb, 1, none⟩) (hN.ne_type hT (by decide)) (.slice (some ⟨ab, 0, none⟩) l.length l.length)).setOther (p := ⟨tb, 2, none⟩) (hN.ne_type hT (by decide)) (.slice (some ⟨xb, 0, none⟩) (256 * l.length) (256 * l.length))
                have hS5 := ((hS3.setT hT hrt (by omega) 0 (.int .i64 0)).setT t1 hrt (by omega) 1 (.slice (some ⟨ab, 0, none⟩) l.length l.length)).setT t2 hrt (by omega) 2 (.slice (some ⟨xb, 0, none⟩) (256 * l.length) (256 * l.length))
                exact ⟨tb, ab, xb, rfl, Lib.hid ⟨hS5, t3, hT2, own_to hA3 (List.map_congr_left fun q _ => by rw [if_neg (by omega)]), own_to hN3 (intsV_congr fun q _ => by rw [if_neg (by omega)]), hKX, hMX⟩⟩
              exact AllReadyH.nil
            refine AllReadyH.cons rfl (fun KK hKK => ?_) ?_
            ·
              have hS1 := hS0.alloc (.cells (madeCells #[Value.int .i64 0] (256 * l.length)) 3)
              have hN := own_base (own_make_ints X0 (256 * l.length) (by omega)) hS0.bl.size
              have hKX : kb ≠ X0.heap.size := by have h1 := (hS0.num.lt kb rfl).2; omega
              have hMX : (Value.slice A l.length C).ownBlock ≠ some X0.heap.size := fun e => by have h1 := (hS0.met.lt _ e).2; omega
              rw [if_pos (by kernel_rfl)]
              go_simp
              refine hKK.out _ _ trivial (fun hHeld => ?_)
              clear hKK KK hS0
              generalize X0.alloc (.cells (madeCells #[Value.int .i64 0] (256 * l.length)) 3) = X1 at hS1 hN hHeld ⊢
              generalize X0.heap.size = xb at hN hKX hMX ⊢
              refine wpAnyH_ready (rs := [2, 8]) (by kernel_rfl) (by simp) ?_
              refine AllReadyH.cons rfl (fun KK hKK => ?_) ?_
              ·
                have hS2 := hS1.alloc (.cells (madeCells #[Value.bool false] l.length) 4)
                have hN := hN.alloc (.cells (madeCells #[Value.bool false] l.length) 4)
                have hA := own_base (own_make_bools X1 l.length (by omega)) hS1.bl.size
                rw [if_pos (by kernel_rfl)]
                go_simp
                refine hKK.out _ _ trivial (fun hHeld => ?_)
                clear hKK KK hS1
                generalize X1.alloc (.cells (madeCells #[Value.bool false] l.length) 4) = X2 at hS2 hN hA hHeld ⊢
                generalize X1.heap.size = ab at hA ⊢
                refine wpAnyH_take (i := 7) (v := ?_) rfl (by kernel_rfl) (by kernel_rfl) (by kernel_rfl) (fun _ _ _ h => h) (Or.inl ⟨by kernel_rfl, ?_⟩) hHeld ?_
                rotate_left
                · intro w hSw
                  go_simp
                  try with_reducible rfl
                refine wpAnyH_ready (rs := [8]) (by kernel_rfl) (by simp) ?_
                refine AllReadyH.cons rfl (fun KK hKK => ?_) ?_
                rotate_left
                · exact AllReadyH.nil
                have hS3 := hS2.alloc (.cells #[.int .i64 0, .slice none 0 0, .slice none 0 0] 54)
                have hN := hN.alloc (.cells #[.int .i64 0, .slice none 0 0, .slice none 0 0] 54)
                have hA := hA.alloc (.cells #[.int .i64 0, .slice none 0 0, .slice none 0 0] 54)
                have hT := heap_alloc_new X2 (.cells #[.int .i64 0, .slice none 0 0, .slice none 0 0] 54)
                have hT2 : w.heap.size < X2.heap.size := by have h1 := lt_of_heap hS2.res; omega
                rw [if_pos (by kernel_rfl)]
                go_simp
                refine hKK.out _ _ trivial (fun hHeld => ?_)
                clear hKK KK hS2
                generalize X2.alloc (.cells #[.int .i64 0, .slice none 0 0, .slice none 0 0] 54) = X3 at hS3 hN hA hT hHeld ⊢
                generalize X2.heap.size = tb at hT hT2 ⊢
                have p0 : X3.cell? ⟨tb, 0, none⟩ = some (.int .i64 0) := blk_cell hT 0
                have p1 : X3.cell? ⟨tb, 1, none⟩ = some (.slice none 0 0) := blk_cell hT 1
                have p2 : X3.cell? ⟨tb, 2, none⟩ = some (.slice none 0 0) := blk_cell hT 2
                have f0 := blk_frozen hT 0
                have f1 := blk_frozen hT 1
                have f2 := blk_frozen hT 2
                refine wpAnyH_ready (rs := [9]) (by kernel_rfl) (by simp) ?_
                refine AllReadyH.cons rfl (fun KK hKK => ?_) ?_
                rotate_left
                · exact AllReadyH.nil
                rw [if_pos (by kernel_rfl)]
                go_simp
                refine hKK.out _ _ trivial (fun hHeld => ?_)
                clear hKK KK p0 p1 p2 f0 f1 f2 hHeld
                refine wpAnyH_done (by kernel_rfl) ?_ _
                refine NoPanic.normal ?_
                go_wp2_with fail
                go_meet
                have hrt : rs ≠ tb := by omega
                have t1 := blk_set hT 0 (.int .i64 0)
                have t2 := blk_set t1 1 (.slice (some ⟨ab, 0, none⟩) l.length l.length)
                have t3 := blk_set t2 2 (.slice (some ⟨xb, 0, none⟩) (256 * l.length) (256 * l.length))
                have hA3 := ((hA.setOther (p := ⟨tb, 0, none⟩) (hA.ne_type hT (by decide)) (.int .i64 0)).setOther (p := ⟨tb, 1, none⟩) (hA.ne_type hT (by decide)) (.slice (some ⟨ab, 0, none⟩) l.length l.length)).setOther (p := ⟨tb, 2, none⟩) (hA.ne_type hT (by decide)) (.slice (some ⟨xb, 0, none⟩) (256 * l.length) (256 * l.length))
                have hN3 := ((hN.setOther (p := ⟨tb, 0, none⟩) (hN.ne_type hT (by decide)) (.int .i64 0)).setOther (p := ⟨tb, 1, none⟩) (hN.ne_type hT (by decide)) (.slice (some ⟨ab, 0, none⟩) l.length l.length)).setOther (p := ⟨tb, 2, none⟩) (hN.ne_type hT (by decide)) (.slice (some ⟨xb, 0, none⟩) (256 * l.length) (256 * l.length))
                have hS5 := ((hS3.setT hT hrt (by omega) 0 (.int .i64 0)).setT t1 hrt (by omega) 1 (.slice (some ⟨ab, 0, none⟩) l.length l.length)).setT t2 hrt (by omega) 2 (.slice (some ⟨xb, 0, none⟩) (256 * l.length) (256 * l.length))
                exact ⟨tb, ab, xb, rfl, Lib.hid ⟨hS5, t3, hT2, own_to hA3 (List.map_congr_left fun q _ => by rw [if_neg (by omega)]), own_to hN3 (intsV_congr fun q _ => by rw [if_neg (by omega)]), hKX, hMX⟩⟩
              refine AllReadyH.cons rfl (fun KK hKK => ?_) ?_
              ·
                have hS2 := hS1.alloc (.cells #[.int .i64 0, .slice none 0 0, .slice none 0 0] 54)
                have hN := hN.alloc (.cells #[.int .i64 0, .slice none 0 0, .slice none 0 0] 54)
                have hT := heap_alloc_new X1 (.cells #[.int .i64 0, .slice none 0 0, .slice none 0 0] 54)
                have hT2 : w.heap.size < X1.heap.size := by have h1 := lt_of_heap hS1.res; omega
                rw [if_pos (by kernel_rfl)]
                go_simp
                refine hKK.out _ _ trivial (fun hHeld => ?_)
                clear hKK KK hS1
                generalize X1.alloc (.cells #[.int .i64 0, .slice none 0 0, .slice none 0 0] 54) = X2 at hS2 hN hT hHeld ⊢
                generalize X1.heap.size = tb at hT hT2 ⊢
                refine wpAnyH_ready (rs := [2]) (by kernel_rfl) (by simp) ?_
                refine AllReadyH.cons rfl (fun KK hKK => ?_) ?_
                rotate_left
                · exact AllReadyH.nil
                have hS3 := hS2.alloc (.cells (madeCells #[Value.bool false] l.length) 4)
                have hN := hN.alloc (.cells (madeCells #[Value.bool false] l.length) 4)
                have hT := heap_al (o2 := .cells (madeCells #[Value.bool false] l.length) 4) hT
                have hA := own_base (own_make_bools X2 l.length (by omega)) hS2.bl.size
                rw [if_pos (by kernel_rfl)]
                go_simp
                refine hKK.out _ _ trivial (fun hHeld => ?_)
                clear hKK KK hS2
                generalize X2.alloc (.cells (madeCells #[Value.bool false] l.length) 4) = X3 at hS3 hN hT hA hHeld ⊢
                generalize X2.heap.size = ab at hA ⊢
                refine wpAnyH_take (i := 7) (v := ?_) rfl (by kernel_rfl) (by kernel_rfl) (by kernel_rfl) (fun _ _ _ h => h) (Or.inl ⟨by kernel_rfl, ?_⟩) hHeld ?_
                rotate_left
                · intro w hSw
                  go_simp
                  try with_reducible rfl
                have p0 : X3.cell? ⟨tb, 0, none⟩ = some (.int .i64 0) := blk_cell hT 0
                have p1 : X3.cell? ⟨tb, 1, none⟩ = some (.slice none 0 0) := blk_cell hT 1
                have p2 : X3.cell? ⟨tb, 2, none⟩ = some (.slice none 0 0) := blk_cell hT 2
                have f0 := blk_frozen hT 0
                have f1 := blk_frozen hT 1
                have f2 := blk_frozen hT 2
                refine wpAnyH_ready (rs := [9]) (by kernel_rfl) (by simp) ?_
                refine AllReadyH.cons rfl (fun KK hKK => ?_) ?_
                rotate_left
                · exact AllReadyH.nil
                rw [if_pos (by kernel_rfl)]
                go_simp
                refine hKK.out _ _ trivial (fun hHeld => ?_)
                clear hKK KK p0 p1 p2 f0 f1 f2 hHeld
                refine wpAnyH_done (by kernel_rfl) ?_ _
                refine NoPanic.normal ?_
                go_wp2_with fail
                go_meet
                have hrt : rs ≠ tb := by omega
                have t1 := blk_set hT 0 (.int .i64 0)
                have t2 := blk_set t1 1 (.slice (some ⟨ab, 0, none⟩) l.length l.length)
                have t3 := blk_set t2 2 (.slice (some ⟨xb, 0, none⟩) (256 * l.length) (256 * l.length))
                have hA3 := ((hA.setOther (p := ⟨tb, 0, none⟩) (hA.ne_type hT (by decide)) (.int .i64 0)).setOther (p := ⟨tb, 1, none⟩) (hA.ne_type hT (by decide)) (.slice (some ⟨ab, 0, none⟩) l.length l.length)).setOther (p := ⟨tb, 2, none⟩) (hA.ne_type hT (by decide)) (.slice (some ⟨xb, 0, none⟩) (256 * l.length) (256 * l.length))
                have hN3 := ((hN.setOther (p := ⟨tb, 0, none⟩) (hN.ne_type hT (by decide)) (.int .i64 0)).setOther (p := ⟨tb, 1, none⟩) (hN.ne_type hT (by decide)) (.slice (some ⟨ab, 0, none⟩) l.length l.length)).setOther (p := ⟨tb, 2, none⟩) (hN.ne_type hT (by decide)) (.slice (some ⟨xb, 0, none⟩) (256 * l.length) (256 * l.length))
                have hS5 := ((hS3.setT hT hrt (by omega) 0 (.int .i64 0)).setT t1 hrt (by omega) 1 (.slice (some ⟨ab, 0, none⟩) l.length l.length)).setT t2 hrt (by omega) 2 (.slice (some ⟨xb, 0, none⟩) (256 * l.length) (256 * l.length))
                exact ⟨tb, ab, xb, rfl, Lib.hid ⟨hS5, t3, hT2, own_to hA3 (List.map_congr_left fun q _ => by rw [if_neg (by omega)]), own_to hN3 (intsV_congr fun q _ => by rw [if_neg (by omega)]), hKX, hMX⟩⟩
              exact AllReadyH.nil
            refine AllReadyH.cons rfl (fun KK hKK => ?_) ?_
            ·
              have hS1 := hS0.alloc (.cells #[.int .i64 0, .slice none 0 0, .slice none 0 0] 54)
              have hT := heap_alloc_new X0 (.cells #[.int .i64 0, .slice none 0 0, .slice none 0 0] 54)
              have hT2 : w.heap.size < X0.heap.size := by have h1 := lt_of_heap hS0.res; omega
              rw [if_pos (by kernel_rfl)]
              go_simp
              refine hKK.out _ _ trivial (fun hHeld => ?_)
              clear hKK KK hS0
              generalize X0.alloc (.cells #[.int .i64 0, .slice none 0 0, .slice none 0 0] 54) = X1 at hS1 hT hHeld ⊢
              generalize X0.heap.size = tb at hT hT2 ⊢
              refine wpAnyH_ready (rs := [2, 6]) (by kernel_rfl) (by simp) ?_
              refine AllReadyH.cons rfl (fun KK hKK => ?_) ?_
              ·
                have hS2 := hS1.alloc (.cells (madeCells #[Value.bool false] l.length) 4)
                have hT := heap_al (o2 := .cells (madeCells #[Value.bool false] l.length) 4) hT
                have hA := own_base (own_make_bools X1 l.length (by omega)) hS1.bl.size
                rw [if_pos (by kernel_rfl)]
                go_simp
                refine hKK.out _ _ trivial (fun hHeld => ?_)
                clear hKK KK hS1
                generalize X1.alloc (.cells (madeCells #[Value.bool false] l.length) 4) = X2 at hS2 hT hA hHeld ⊢
                generalize X1.heap.size = ab at hA ⊢
                refine wpAnyH_ready (rs := [6]) (by kernel_rfl) (by simp) ?_
                refine AllReadyH.cons rfl (fun KK hKK => ?_) ?_
                rotate_left
                · exact AllReadyH.nil
                have hS3 := hS2.alloc (.cells (madeCells #[Value.int .i64 0] (256 * l.length)) 3)
                have hT := heap_al (o2 := .cells (madeCells #[Value.int .i64 0] (256 * l.length)) 3) hT
                have hA := hA.alloc (.cells (madeCells #[Value.int .i64 0] (256 * l.length)) 3)
                have hN := own_base (own_make_ints X2 (256 * l.length) (by omega)) hS2.bl.size
                have hKX : kb ≠ X2.heap.size := by have h1 := (hS2.num.lt kb rfl).2; omega
                have hMX : (Value.slice A l.length C).ownBlock ≠ some X2.heap.size := fun e => by have h1 := (hS2.met.lt _ e).2; omega
                rw [if_pos (by kernel_rfl)]
                go_simp
                refine hKK.out _ _ trivial (fun hHeld => ?_)
                clear hKK KK hS2
                generalize X2.alloc (.cells (madeCells #[Value.int .i64 0] (256 * l.length)) 3) = X3 at hS3 hT hA hN hHeld ⊢
                generalize X2.heap.size = xb at hN hKX hMX ⊢
                refine wpAnyH_take (i := 7) (v := ?_) rfl (by kernel_rfl) (by kernel_rfl) (by kernel_rfl) (fun _ _ _ h => h) (Or.inl ⟨by kernel_rfl, ?_⟩) hHeld ?_
                rotate_left
                · intro w hSw
                  go_simp
                  try with_reducible rfl
                have p0 : X3.cell? ⟨tb, 0, none⟩ = some (.int .i64 0) := blk_cell hT 0
                have p1 : X3.cell? ⟨tb, 1, none⟩ = some (.slice none 0 0) := blk_cell hT 1
                have p2 : X3.cell? ⟨tb, 2, none⟩ = some (.slice none 0 0) := blk_cell hT 2
                have f0 := blk_frozen hT 0
                have f1 := blk_frozen hT 1
                have f2 := blk_frozen hT 2
                refine wpAnyH_ready (rs := [9]) (by kernel_rfl) (by simp) ?_
                refine AllReadyH.cons rfl (fun KK hKK => ?_) ?_
                rotate_left
                · exact AllReadyH.nil
                rw [if_pos (by kernel_rfl)]
                go_simp
                refine hKK.out _ _ trivial (fun hHeld => ?_)
                clear hKK KK p0 p1 p2 f0 f1 f2 hHeld
                refine wpAnyH_done (by kernel_rfl) ?_ _
                refine NoPanic.normal ?_
                go_wp2_with fail
                go_meet
                have hrt : rs ≠ tb := by omega
                have t1 := blk_set hT 0 (.int .i64 0)
                have t2 := blk_set t1 1 (.slice (some ⟨ab, 0, none⟩) l.length l.length)
                have t3 := blk_set t2 2 (.slice (some ⟨xb, 0, none⟩) (256 * l.length) (256 * l.length))
                have hA3 := ((hA.setOther (p := ⟨tb, 0, none⟩) (hA.ne_type hT (by decide)) (.int .i64 0)).setOther (p := ⟨tb, 1, none⟩) (hA.ne_type hT (by decide)) (.slice (some ⟨ab, 0, none⟩) l.length l.length)).setOther (p := ⟨tb, 2, none⟩) (hA.ne_type hT (by decide)) (.slice (some ⟨xb, 0, none⟩) (256 * l.length) (256 * l.length))
                have hN3 := ((hN.setOther (p := ⟨tb, 0, none⟩) (hN.ne_type hT (by decide)) (.int .i64 0)).setOther (p := ⟨tb, 1, none⟩) (hN.ne_type hT (by decide)) (.slice (some ⟨ab, 0, none⟩) l.length l.length)).setOther (p := ⟨tb, 2, none⟩) (hN.ne_type hT (by decide)) (.slice (some ⟨xb, 0, none⟩) (256 * l.length) (256 * l.length))
                have hS5 := ((hS3.setT hT hrt (by omega) 0 (.int .i64 0)).setT t1 hrt (by omega) 1 (.slice (some ⟨ab, 0, none⟩) l.length l.length)).setT t2 hrt (by omega) 2 (.slice (some ⟨xb, 0, none⟩) (256 * l.length) (256 * l.length))
                exact ⟨tb, ab, xb, rfl, Lib.hid ⟨hS5, t3, hT2, own_to hA3 (List.map_congr_left fun q _ => by rw [if_neg (by omega)]), own_to hN3 (intsV_congr fun q _ => by rw [if_neg (by omega)]), hKX, hMX⟩⟩
              refine AllReadyH.cons rfl (fun KK hKK => ?_) ?_
              ·
                have hS2 := hS1.alloc (.cells (madeCells #[Value.int .i64 0] (256 * l.length)) 3)
                have hT := heap_al (o2 := .cells (madeCells #[Value.int .i64 0] (256 * l.length)) 3) hT
                have hN := own_base (own_make_ints X1 (256 * l.length) (by omega)) hS1.bl.size
                have hKX : kb ≠ X1.heap.size := by have h1 := (hS1.num.lt kb rfl).2; omega
                have hMX : (Value.slice A l.length C).ownBlock ≠ some X1.heap.size := fun e => by have h1 := (hS1.met.lt _ e).2; omega
                rw [if_pos (by kernel_rfl)]
                go_simp
                refine hKK.out _ _ trivial (fun hHeld => ?_)
                clear hKK KK hS1
                generalize X1.alloc (.cells (madeCells #[Value.int .i64 0] (256 * l.length)) 3) = X2 at hS2 hT hN hHeld ⊢
                generalize X1.heap.size = xb at hN hKX hMX ⊢
                refine wpAnyH_ready (rs := [2]) (by kernel_rfl) (by simp) ?_
                refine AllReadyH.cons rfl (fun KK hKK => ?_) ?_
                rotate_left
                · exact AllReadyH.nil
                have hS3 := hS2.alloc (.cells (madeCells #[Value.bool false] l.length) 4)
                have hT := heap_al (o2 := .cells (madeCells #[Value.bool false] l.length) 4) hT
                have hN := hN.alloc (.cells (madeCells #[Value.bool false] l.length) 4)
                have hA := own_base (own_make_bools X2 l.length (by omega)) hS2.bl.size
                rw [if_pos (by kernel_rfl)]
                go_simp
                refine hKK.out _ _ trivial (fun hHeld => ?_)
                clear hKK KK hS2
                generalize X2.alloc (.cells (madeCells #[Value.bool false] l.length) 4) = X3 at hS3 hT hN hA hHeld ⊢
                generalize X2.heap.size = ab at hA ⊢
                refine wpAnyH_take (i := 7) (v := ?_) rfl (by kernel_rfl) (by kernel_rfl) (by kernel_rfl) (fun _ _ _ h => h) (Or.inl ⟨by kernel_rfl, ?_⟩) hHeld ?_
                rotate_left
                · intro w hSw
                  go_simp
                  try with_reducible rfl
                have p0 : X3.cell? ⟨tb, 0, none⟩ = some (.int .i64 0) := blk_cell hT 0
                have p1 : X3.cell? ⟨tb, 1, none⟩ = some (.slice none 0 0) := blk_cell hT 1
                have p2 : X3.cell? ⟨tb, 2, none⟩ = some (.slice none 0 0) := blk_cell hT 2
                have f0 := blk_frozen hT 0
                have f1 := blk_frozen hT 1
                have f2 := blk_frozen hT 2
                refine wpAnyH_ready (rs := [9]) (by kernel_rfl) (by simp) ?_
                refine AllReadyH.cons rfl (fun KK hKK => ?_) ?_
                rotate_left
                · exact AllReadyH.nil
                rw [if_pos (by kernel_rfl)]
                go_simp
                refine hKK.out _ _ trivial (fun hHeld => ?_)
                clear hKK KK p0 p1 p2 f0 f1 f2 hHeld
                refine wpAnyH_done (by kernel_rfl) ?_ _
                refine NoPanic.normal ?_
                go_wp2_with fail
                go_meet
                have hrt : rs ≠ tb := by omega
                have t1 := blk_set hT 0 (.int .i64 0)
                have t2 := blk_set t1 1 (.slice (some ⟨ab, 0, none⟩) l.length l.length)
                have t3 := blk_set t2 2 (.slice (some ⟨xb, 0, none⟩) (256 * l.length) (256 * l.length))
                have hA3 := ((hA.setOther (p := ⟨tb, 0, none⟩) (hA.ne_type hT (by decide)) (.int .i64 0)).setOther (p := ⟨tb, 1, none⟩) (hA.ne_type hT (by decide)) (.slice (some ⟨ab, 0, none⟩) l.length l.length)).setOther (p := ⟨tb, 2, none⟩) (hA.ne_type hT (by decide)) (.slice (some ⟨xb, 0, none⟩) (256 * l.length) (256 * l.length))
                have hN3 := ((hN.setOther (p := ⟨tb, 0, none⟩) (hN.ne_type hT (by decide)) (.int .i64 0)).setOther (p := ⟨tb, 1, none⟩) (hN.ne_type hT (by decide)) (.slice (some ⟨ab, 0, none⟩) l.length l.length)).setOther (p := ⟨tb, 2, none⟩) (hN.ne_type hT (by decide)) (.slice (some ⟨xb, 0, none⟩) (256 * l.length) (256 * l.length))
                have hS5 := ((hS3.setT hT hrt (by omega) 0 (.int .i64 0)).setT t1 hrt (by omega) 1 (.slice (some ⟨ab, 0, none⟩) l.length l.length)).setT t2 hrt (by omega) 2 (.slice (some ⟨xb, 0, none⟩) (256 * l.length) (256 * l.length))
                exact ⟨tb, ab, xb, rfl, Lib.hid ⟨hS5, t3, hT2, own_to hA3 (List.map_congr_left fun q _ => by rw [if_neg (by omega)]), own_to hN3 (intsV_congr fun q _ => by rw [if_neg (by omega)]), hKX, hMX⟩⟩
              exact AllReadyH.nil
            exact AllReadyH.nil
          case rest =>
            obtain ⟨tb, ab, xb, rfl, HQ⟩ := hcut
            clear hmkA hmkN w256
            have hmem : ∀ q b, q < l.length → b < 256 → H.nx (l.getD q 0) b ∈ l := fun q b hq hb => by
              obtain ⟨g1, g2, g3⟩ := walked_nx HWK.out (p := 256 * q + b) (by omega)
              have g4 := (mts_mono H (show 256 * q + b + 1 ≤ 256 * l.length by omega)).subset g3
              unfold nxAt at g4
              rw [show (256 * q + b) / 256 = q by omega, show (256 * q + b) % 256 = b by omega] at g4
              rw [show (256 * q + b) / 256 = q by omega] at g2
              rw [← g2, HL.out] at g4
              exact g4
            have HMEM := Lib.hid hmem
            clear hmem
            go_upto_region 21 with fail
            go_loopw [76] (fun s76 wr => ∃ (i : Nat), s76 = .int .i64 (i : Nat) ∧ i ≤ l.length ∧ RowKit.Hid (TcS w wr rs kb tb ab xb H (.slice A l.length C) l i (256 * i))) (fun s76 _ => l.length - (intOf s76).toNat)
            case atStart => exact ⟨0, rfl, Nat.zero_le _, HQ⟩
            case round =>
              clear HQ
              obtain ⟨i, rfl, hi2, HQ⟩ := hrel
              by_cases hlt2 : i < l.length
              · obtain ⟨mb, rfl⟩ := HQ.out.st.met.someAt (by omega)
                have m1 : wr.cell? ⟨mb, i, none⟩ = some (.int .i64 ((l[i] : Nat) : Int)) := HQ.out.st.met.get (natsV_get hlt2)
                have hxn : l[i] < H.n := mts_rng H hn0 HR.out (256 * l.length) _ (by rw [HL.out]; exact List.getElem_mem hlt2)
                have hxd : l.getD i 0 = l[i] := by simp [List.getD, hlt2]
                obtain ⟨x, hx⟩ : ∃ x, l[i] = x := ⟨_, rfl⟩
                rw [hx] at m1 hxn hxd
                have hgr := HG.out wr HQ.out.st.bl
                have g1 : wr.cell? ⟨g, 1, none⟩ = some (.slice aga H.n agc) := blk_cell hgr.blk 1
                obtain ⟨aga', agc', ha, -, hcell⟩ := hgr.accAt
                injection ha with e1 e2 e3
                subst e1 e3
                obtain ⟨gab, rfl, -, -, hcell⟩ := hcell hn0
                have a1 := hcell x hxn
                have t1 : wr.cell? ⟨tb, 1, none⟩ = some (.slice (some ⟨ab, 0, none⟩) l.length l.length) := blk_cell HQ.out.tab 1
                have k1 : wr.cell? ⟨ab, i, none⟩ = some (.bool (if i < i then H.acc (l.getD i 0) else false)) := HQ.out.acc.get (by simp [hlt2])
                have f1 := HQ.out.acc.frozen i
                have i1 : (i : Int) < (l.length : Int) := by omega
                have i2 : (x : Int) < (H.n : Int) := by omega
                obtain ⟨bv, hbv⟩ : ∃ b, H.acc x = b := ⟨_, rfl⟩
                rw [hbv] at a1
                have hQ1 := HQ.out.setAcc bv (by rw [hxd, hbv])
                have hgr2 := HG.out _ hQ1.st.bl
                have g0 : (wr.setCell ⟨ab, i, none⟩ (.bool bv)).cell? ⟨g, 0, none⟩ = some (.slice nga H.n ngc) := blk_cell hgr2.blk 0
                obtain ⟨gb, gc, hv, -, -, -, hrg⟩ := hgr2.range hxn
                injection hv with e1 e2 e3
                subst e1 e3
                have HQ1 := Lib.hid hQ1
                have HRG := Lib.hid hrg
                have HXD := Lib.hid hxd
                clear hx hxd hgr hcell hbv hQ1 hgr2 hrg e2 HQ
                go_upto_region 23 with fail
                go_still_tail 10, (by kernel_rfl)
                change wpList _ _ _ _ _ (World.drew _)
                go_upto_region 25 with (with_reducible refine wp_row_load HRG.out rfl _ rfl rfl ?_)
                clear g0 HRG k1 f1 t1 g1 a1 m1
                generalize (wr.setCell ⟨ab, i, none⟩ (.bool bv)).drew = X1 at HQ1 ⊢
                have HQ0 : RowKit.Hid (TcS w X1 rs kb tb ab xb H (.slice (some ⟨mb, 0, none⟩) l.length C) l (i + 1) (256 * i + 0)) := HQ1
                clear HQ1
                go_loopw [99] (fun s99 wr => ∃ (b : Nat), s99 = .int .i64 (b : Nat) ∧ b ≤ 256 ∧ RowKit.Hid (TcS w wr rs kb tb ab xb H (.slice (some ⟨mb, 0, none⟩) l.length C) l (i + 1) (256 * i + b))) (fun s99 _ => 256 - (intOf s99).toNat)
                case atStart => exact ⟨0, rfl, Nat.zero_le _, HQ0⟩
                case round =>
                  clear HQ0
                  obtain ⟨b, rfl, hb, HQ⟩ := hrel
                  by_cases hb2 : b < 256
                  · have hnl := HMEM.out i b hlt2 hb2
                    rw [HXD.out] at hnl
                    have hnn := HR.out x b hxn hb2
                    obtain ⟨n, hnx⟩ : ∃ n, H.nx x b = n := ⟨_, rfl⟩
                    have hix : ∀ X, (Instr.index 136 (.agg (rowV (H.nx x)).toArray) (.int .i64 (b : Nat))).run Tryd.prog X = .ok (.int .i64 ((n : Nat) : Int)) X := fun X => by rw [← hnx]; exact run_index_arr X (H.nx x) hb2
                    rw [hnx] at hnl hnn
                    obtain ⟨k, hk⟩ : ∃ k, l.idxOf n = k := ⟨_, rfl⟩
                    have n1 : wr.cell? ⟨kb, n, none⟩ = some (.int .i64 ((k : Nat) : Int)) := by
                      have h9 : wr.cell? ⟨kb, n, none⟩ = some (.int .i64 (nmI l n)) := HQ.out.st.num.get (intsI_get _ _ _ hnn)
                      rw [h9]
                      unfold nmI
                      rw [if_pos hnl, hk]
                    obtain ⟨z, hz⟩ : ∃ z, 256 * i + b = z := ⟨_, rfl⟩
                    rw [hz] at HQ
                    have hzl : z < 256 * l.length := by omega
                    have t2 : wr.cell? ⟨tb, 2, none⟩ = some (.slice (some ⟨xb, 0, none⟩) (256 * l.length) (256 * l.length)) := blk_cell HQ.out.tab 2
                    have k2 : wr.cell? ⟨xb, z, none⟩ = some (.int .i64 (((if z < z then l.idxOf (H.nx (l.getD (z / 256) 0) (z % 256)) else 0 : Nat) : Nat) : Int)) := HQ.out.nx.get (intsV_get _ _ _ hzl)
                    have f2 := HQ.out.nx.frozen z
                    have w1 : IntKind.i64.wrap (256 * (i : Int)) = 256 * (i : Int) := by rw [IntKind.wrap_i64]; omega
                    have w2 : IntKind.i64.wrap (256 * (i : Int) + (b : Int)) = (z : Int) := by rw [IntKind.wrap_i64]; omega
                    have i3 : (z : Int) < ((256 * l.length : Nat) : Int) := by omega
                    have i4 : (n : Int) < (H.n : Int) := by omega
                    have hQ2 := HQ.out.setNx k (by rw [show z / 256 = i by omega, show z % 256 = b by omega, HXD.out, hnx, hk])
                    have HQ2 := Lib.hid hQ2
                    have HZ := Lib.hid hz
                    clear hnl hnx hk hz hzl hQ2 HQ
                    go_upto_region 27 with fail
                    clear hix
                    go_still_tail 10, (by kernel_rfl)
                    change wpList _ _ _ _ _ (World.drew _)
                    go_wp2
                    generalize (wr.setCell ⟨xb, z, none⟩ (.int .i64 ((k : Nat) : Int))).drew = X3 at HQ2 ⊢
                    go_roundw
                    case rel => exact ⟨b + 1, by go_num, by omega, by rw [← Nat.add_assoc, HZ.out]; exact HQ2⟩
                    case measure => simp [intOf]; omega
                  · obtain rfl : b = 256 := by omega
                    have HQ5 : RowKit.Hid (TcS w wr rs kb tb ab xb H (.slice (some ⟨mb, 0, none⟩) l.length C) l (i + 1) (256 * (i + 1))) := HQ
                    clear HQ
                    go_wp2
                    go_roundw
                    case rel => exact ⟨i + 1, by go_num, by omega, HQ5⟩
                    case measure => simp [intOf]; omega
              · obtain rfl : i = l.length := by omega
                have t0 : wr.cell? ⟨tb, 0, none⟩ = some (.int .i64 0) := blk_cell HQ.out.tab 0
                have t1 : wr.cell? ⟨tb, 1, none⟩ = some (.slice (some ⟨ab, 0, none⟩) l.length l.length) := blk_cell HQ.out.tab 1
                have t2 : wr.cell? ⟨tb, 2, none⟩ = some (.slice (some ⟨xb, 0, none⟩) (256 * l.length) (256 * l.length)) := blk_cell HQ.out.tab 2
                have r0 : wr.cell? ⟨rs, 0, none⟩ = some (.int .i64 0) := blk_cell HQ.out.st.res 0
                have r1 : wr.cell? ⟨rs, 1, none⟩ = some (.slice none 0 0) := blk_cell HQ.out.st.res 1
                have r2 : wr.cell? ⟨rs, 2, none⟩ = some (.slice none 0 0) := blk_cell HQ.out.st.res 2
                have f0 := blk_frozen HQ.out.st.res 0
                have f1 := blk_frozen HQ.out.st.res 1
                have f2 := blk_frozen HQ.out.st.res 2
                have s1 := blk_set HQ.out.st.res 0 (.int .i64 0)
                have s2 := blk_set s1 1 (.slice (some ⟨ab, 0, none⟩) l.length l.length)
                have s3 := blk_set s2 2 (.slice (some ⟨xb, 0, none⟩) (256 * l.length) (256 * l.length))
                have hA := HQ.out.acc
                have hN := HQ.out.nx
                have hr := HQ.out.st.res
                have hA3 := ((hA.setOther (p := ⟨rs, 0, none⟩) (hA.ne_type hr (by decide)) (.int .i64 0)).setOther (p := ⟨rs, 1, none⟩) (hA.ne_type hr (by decide)) (.slice (some ⟨ab, 0, none⟩) l.length l.length)).setOther (p := ⟨rs, 2, none⟩) (hA.ne_type hr (by decide)) (.slice (some ⟨xb, 0, none⟩) (256 * l.length) (256 * l.length))
                have hN3 := ((hN.setOther (p := ⟨rs, 0, none⟩) (hN.ne_type hr (by decide)) (.int .i64 0)).setOther (p := ⟨rs, 1, none⟩) (hN.ne_type hr (by decide)) (.slice (some ⟨ab, 0, none⟩) l.length l.length)).setOther (p := ⟨rs, 2, none⟩) (hN.ne_type hr (by decide)) (.slice (some ⟨xb, 0, none⟩) (256 * l.length) (256 * l.length))
                have hB3 := ((HQ.out.st.bl.setCell (p := ⟨rs, 0, none⟩) hrs1 (.int .i64 0)).setCell (p := ⟨rs, 1, none⟩) hrs1 (.slice (some ⟨ab, 0, none⟩) l.length l.length)).setCell (p := ⟨rs, 2, none⟩) hrs1 (.slice (some ⟨xb, 0, none⟩) (256 * l.length) (256 * l.length))
                have HA3 := Lib.hid hA3
                have HN3 := Lib.hid hN3
                have HB3 := Lib.hid hB3
                have HS3 := Lib.hid s3
                clear s1 s2 s3 hA hN hr hA3 hN3 hB3 HQ
                go_wp2_with fail
                generalize ((wr.setCell ⟨rs, 0, none⟩ (.int .i64 0)).setCell ⟨rs, 1, none⟩ (.slice (some ⟨ab, 0, none⟩) l.length l.length)).setCell ⟨rs, 2, none⟩ (.slice (some ⟨xb, 0, none⟩) (256 * l.length) (256 * l.length)) = X9 at HA3 HN3 HB3 HS3 ⊢
                clear r0 r1 r2 f0 f1 f2
                have zc0 : X9.cell? ⟨rs, 0, none⟩ = some (.int .i64 0) := blk_cell HS3.out 0
                have zc1 : X9.cell? ⟨rs, 1, none⟩ = some (.slice (some ⟨ab, 0, none⟩) l.length l.length) := blk_cell HS3.out 1
                have zc2 : X9.cell? ⟨rs, 2, none⟩ = some (.slice (some ⟨xb, 0, none⟩) (256 * l.length) (256 * l.length)) := blk_cell HS3.out 2
                refine bodyPost_ret (v := .agg #[.int .i64 0, .slice (some ⟨ab, 0, none⟩) l.length l.length, .slice (some ⟨xb, 0, none⟩) (256 * l.length) (256 * l.length)]) (by simp [results, Tryd.results54, go_sem, zc0, zc1, zc2]; try rfl) rfl ?_
                have hfin := hi0
                refine ⟨some ⟨ab, 0, none⟩, some ⟨xb, 0, none⟩, l.length, 256 * l.length, l.length, rfl, ?_, by rw [HL.out], HWK.out, hi0, hi, HB3.out⟩
                rw [HL.out]
                exact ⟨own_to HA3.out (List.map_congr_left fun s hs => by rw [if_pos (List.mem_range.1 hs)]; rfl), own_to HN3.out (intsV_congr fun j hj => by rw [if_pos hj]; rfl)⟩
end Go.Proofs.YtejmjjgbbojfbaaDoor
