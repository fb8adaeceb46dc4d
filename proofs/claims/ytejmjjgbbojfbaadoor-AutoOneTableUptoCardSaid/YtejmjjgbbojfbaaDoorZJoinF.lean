/- auto: joined. -/
import Derived.Test.YtejmjjgbbojfbaaDoorZG4
import Derived.Test.YtejmjjgbbojfbaaDoorZLeastP
import Derived.Deep.RegionHeld3
namespace Go.Proofs.YtejmjjgbbojfbaaDoor
set_option linter.unusedVariables false
open Go.ChangeShapes Go.WideShapes Go.ChangeAt Go.RowKit

def JoinPost (w : World) (T : Tab) (cl : Nat → Nat) (count : Nat) (e : Ending) (w' : World) : Prop := ∃ h nv av, e = .returned (.pointer (some ⟨h, 0, none⟩)) ∧ GraphAt w' w.heap.size h nv av (joinT T cl count) ∧ Below w.heap.size w w'
theorem GraphAt.drew {w : World} {B g : Nat} {nv av : Value} {T : Tab} (h : GraphAt w B g nv av T) : GraphAt w.drew B g nv av T := ⟨h.blk, h.hg, h.next, h.acc⟩
/-- A list of numbers that reads: its cells. -/
theorem rd_ints {w : World} {a : Option Addr} {n c : Nat} {f : Nat → Nat} (h : Rd w (.slice a n c) (intsV f n)) (h0 : 0 < n) : ∃ b o, a = some ⟨b, o, none⟩ ∧ ∀ i, i < n → w.cell? ⟨b, o + i, none⟩ = some (.int .i64 ((f i : Nat) : Int)) := by
  obtain ⟨A, c', e, _, hg⟩ := h
  injection e with e1 e2 e3
  subst e1
  rw [intsV_length] at hg
  obtain ⟨b, o, rfl, hc⟩ := hg h0
  exact ⟨b, o, rfl, fun i hi => hc i _ (intsV_get f n i hi)⟩
/-- The joined graph, while the row of state s is laid: b bytes are. -/
def jpart (T : Tab) (cl : Nat → Nat) (s b : Nat) : Nat → Nat → Nat := fun k c => if k = cl s ∧ c < b then cl (T.nx s c) else jnx T cl s k c
set_option maxRecDepth 100000 in
set_option maxHeartbeats 4000000 in
theorem joined_any (w : World) (B g : Nat) (nv av : Value) (T : Tab) (h : GraphAt w B g nv av T) (ca : Option Addr) (cc : Nat) (cl : Nat → Nat) (count : Nat) (hcr : Rd w (.slice ca T.n cc) (intsV cl T.n)) (hn : T.n ≤ 1024) (hn0 : 0 < T.n) (hct : count ≤ 1024) (hcl : ∀ s, s < T.n → cl s < count)
    (hr : ∀ s c, s < T.n → c < 256 → T.nx s c < T.n) :
    Calls Tryd.prog 63 #[.pointer (some ⟨g, 0, none⟩), .slice ca T.n cc, .int .i64 (count : Nat)] w (JoinPost w T cl count) := by
  have HG := Lib.hid (show ∀ X, Below w.heap.size w X → GraphAt X B g nv av T from fun X e => h.below e (Nat.le_refl _))
  have HR := Lib.hid hr
  have HCL := Lib.hid hcl
  obtain ⟨cb, co, rfl, hcc⟩ := rd_ints hcr hn0
  have HCC := Lib.hid (show ∀ X, Below w.heap.size w X → ∀ i, i < T.n → X.cell? ⟨cb, co + i, none⟩ = some (.int .i64 ((cl i : Nat) : Int)) from fun X e i hi => (e.cell (World.block_lt_of_cell? w _ (hcc i hi))).trans (hcc i hi))
  have hccap : T.n ≤ cc := by
    obtain ⟨A, c', e, hc, _⟩ := hcr
    injection e with _ _ e3
    rw [intsV_length] at hc
    omega
  obtain ⟨nga, ngc, hnv, hnc, -⟩ := h.at_
  obtain ⟨aga, agc, hav, hac, -⟩ := h.accAt
  subst hnv hav
  have hmk1 := fun X => run_make_arr X count (by omega) (count : Int) rfl
  have hmk2 := fun X => make_row elBoolG rfl count (by omega) (count : Int) rfl X
  clear h hr hcl hcr hcc
  go_enter Tryd.func63, Tryd.ntmps63
  go_upto_region 1 with fail
  go_cut [7] (fun s7 wx => ∃ (hb nb ab : Nat), s7 = .pointer (some ⟨hb, 0, none⟩) ∧ RowKit.Hid (GraphAt wx w.heap.size hb (.slice (some ⟨nb, 0, none⟩) count count) (.slice (some ⟨ab, 0, none⟩) count count) ⟨count, fun _ => false, fun _ _ => 0⟩) ∧ RowKit.Hid (Below w.heap.size w wx))
  case first =>
    have hb0 := (Below.refl w.heap.size w).drew
    refine wp_region_noPanic ?_
    refine wp_region_held_drew (S := fun _ => True) (by kernel_rfl) trivial (fun hHeld => ?_)
    generalize World.drew w = X0 at hb0 hHeld ⊢
    refine wpAnyH_take (i := 0) (v := ?_) rfl (by kernel_rfl) (by kernel_rfl) (by kernel_rfl) (fun _ _ _ h => h) (Or.inl ⟨by kernel_rfl, ?_⟩) hHeld ?_
    rotate_left
    · intro w hSw
      go_simp
      try with_reducible rfl
    refine wpAnyH_take (i := 2) (v := ?_) rfl (by kernel_rfl) (by kernel_rfl) (by kernel_rfl) (fun _ _ _ h => h) (Or.inl ⟨by kernel_rfl, ?_⟩) hHeld ?_
    rotate_left
    · intro w hSw
      go_simp
      try with_reducible rfl
    refine wpAnyH_ready (rs := [1, 3]) (by kernel_rfl) (by simp) ?_
    refine AllReadyH.cons rfl (fun KK hKK => ?_) ?_
    ·
      rw [if_pos (by kernel_rfl)]
      go_simp
      refine hKK.out _ _ trivial (fun hHeld => ?_)
      clear hKK KK
      refine wpAnyH_ready (rs := [3]) (by kernel_rfl) (by simp) ?_
      refine AllReadyH.cons rfl (fun KK hKK => ?_) ?_
      rotate_left
      · exact AllReadyH.nil
      rw [if_pos (by kernel_rfl)]
      go_simp
      refine hKK.out _ _ trivial (fun hHeld => ?_)
      clear hKK KK
      have hN := owns_make_arr X0 count (by omega)
      have hA := own_make_bools (X0.alloc (.cells (flatN (fun _ _ => 0) count).toArray 136)) count (by omega)
      have hb1 := hb0.alloc hb0.size (.cells (flatN (fun _ _ => 0) count).toArray 136)
      have hb2 := hb1.alloc hb1.size (.cells (madeCells #[Value.bool false] count) 4)
      have hN2 := hN.alloc (.cells (madeCells #[Value.bool false] count) 4)
      have hzz : (X0.alloc (.cells (flatN (fun _ _ => 0) count).toArray 136)).heap.size = X0.heap.size + 1 := by simp
      rw [hzz] at hA
      generalize (X0.alloc (.cells (flatN (fun _ _ => 0) count).toArray 136)).alloc (.cells (madeCells #[Value.bool false] count) 4) = X2 at hA hN2 hb2 hHeld ⊢
      have hA1 := own_base hA (Nat.le_trans hb0.size (Nat.le_succ _))
      have hN1 := rows_base hN2 hb0.size
      clear hN hb1 hzz hA hN2
      refine wpAnyH_take (i := 4) (v := ?_) rfl (by kernel_rfl) (by kernel_rfl) (by kernel_rfl) (fun _ _ _ h => h) (Or.inl ⟨by kernel_rfl, ?_⟩) hHeld ?_
      rotate_left
      · intro w hSw
        go_simp
        try with_reducible rfl
      refine wpAnyH_ready (rs := [5]) (by kernel_rfl) (by simp) ?_
      refine AllReadyH.cons rfl (fun KK hKK => ?_) ?_
      rotate_left
      · exact AllReadyH.nil
      rw [if_pos (by kernel_rfl)]
      go_simp
      refine hKK.out _ _ trivial (fun hHeld => ?_)
      clear hKK KK
      refine wpAnyH_take (i := 6) (v := ?_) rfl (by kernel_rfl) (by kernel_rfl) (by kernel_rfl) (fun _ _ _ h => h) (Or.inl ⟨by kernel_rfl, ?_⟩) hHeld ?_
      rotate_left
      · intro w hSw
        go_simp
        try with_reducible rfl
      refine wpAnyH_done (by kernel_rfl) ?_ _
      refine NoPanic.normal ?_
      go_wp2_with fail
      go_meet
      refine ⟨_, _, _, rfl, Lib.hid ⟨heap_alloc_new X2 _, hb2.size, hN1.alloc _, hA1.alloc _⟩, Lib.hid (hb2.alloc hb2.size _)⟩
    refine AllReadyH.cons rfl (fun KK hKK => ?_) ?_
    ·
      rw [if_pos (by kernel_rfl)]
      go_simp
      refine hKK.out _ _ trivial (fun hHeld => ?_)
      clear hKK KK
      refine wpAnyH_ready (rs := [1]) (by kernel_rfl) (by simp) ?_
      refine AllReadyH.cons rfl (fun KK hKK => ?_) ?_
      rotate_left
      · exact AllReadyH.nil
      rw [if_pos (by kernel_rfl)]
      go_simp
      refine hKK.out _ _ trivial (fun hHeld => ?_)
      clear hKK KK
      have hA := own_make_bools X0 count (by omega)
      have hN := owns_make_arr (X0.alloc (.cells (madeCells #[Value.bool false] count) 4)) count (by omega)
      have hb1 := hb0.alloc hb0.size (.cells (madeCells #[Value.bool false] count) 4)
      have hb2 := hb1.alloc hb1.size (.cells (flatN (fun _ _ => 0) count).toArray 136)
      have hA2 := hA.alloc (.cells (flatN (fun _ _ => 0) count).toArray 136)
      have hzz : (X0.alloc (.cells (madeCells #[Value.bool false] count) 4)).heap.size = X0.heap.size + 1 := by simp
      rw [hzz] at hN
      generalize (X0.alloc (.cells (madeCells #[Value.bool false] count) 4)).alloc (.cells (flatN (fun _ _ => 0) count).toArray 136) = X2 at hA2 hN hb2 hHeld ⊢
      have hA1 := own_base hA2 hb0.size
      have hN1 := rows_base hN (Nat.le_trans hb0.size (Nat.le_succ _))
      clear hN hb1 hzz hA hA2
      refine wpAnyH_take (i := 4) (v := ?_) rfl (by kernel_rfl) (by kernel_rfl) (by kernel_rfl) (fun _ _ _ h => h) (Or.inl ⟨by kernel_rfl, ?_⟩) hHeld ?_
      rotate_left
      · intro w hSw
        go_simp
        try with_reducible rfl
      refine wpAnyH_ready (rs := [5]) (by kernel_rfl) (by simp) ?_
      refine AllReadyH.cons rfl (fun KK hKK => ?_) ?_
      rotate_left
      · exact AllReadyH.nil
      rw [if_pos (by kernel_rfl)]
      go_simp
      refine hKK.out _ _ trivial (fun hHeld => ?_)
      clear hKK KK
      refine wpAnyH_take (i := 6) (v := ?_) rfl (by kernel_rfl) (by kernel_rfl) (by kernel_rfl) (fun _ _ _ h => h) (Or.inl ⟨by kernel_rfl, ?_⟩) hHeld ?_
      rotate_left
      · intro w hSw
        go_simp
        try with_reducible rfl
      refine wpAnyH_done (by kernel_rfl) ?_ _
      refine NoPanic.normal ?_
      go_wp2_with fail
      go_meet
      refine ⟨_, _, _, rfl, Lib.hid ⟨heap_alloc_new X2 _, hb2.size, hN1.alloc _, hA1.alloc _⟩, Lib.hid (hb2.alloc hb2.size _)⟩
    exact AllReadyH.nil
  case rest =>
    obtain ⟨hb, nb, ab, rfl, HH, HB⟩ := hcut
    clear hmk1 hmk2
    have HH0 : RowKit.Hid (GraphAt wc w.heap.size hb (.slice (some ⟨nb, 0, none⟩) count count) (.slice (some ⟨ab, 0, none⟩) count count) ⟨count, jacc T cl 0, jnx T cl 0⟩) := HH
    clear HH
    go_upto_region 3 with fail
    go_loopw [20] (fun s20 wr => ∃ (s : Nat), s20 = .int .i64 (s : Nat) ∧ s ≤ T.n ∧ RowKit.Hid (GraphAt wr w.heap.size hb (.slice (some ⟨nb, 0, none⟩) count count) (.slice (some ⟨ab, 0, none⟩) count count) ⟨count, jacc T cl s, jnx T cl s⟩) ∧ RowKit.Hid (Below w.heap.size w wr)) (fun s20 _ => T.n - (intOf s20).toNat)
    case atStart => exact ⟨0, rfl, Nat.zero_le _, HH0, HB⟩
    case round =>
      clear HH0 HB
      obtain ⟨s, rfl, hs, HH, HB⟩ := hrel
      by_cases hlt : s < T.n
      · have hgr := HG.out wr HB.out
        have l0 := HCC.out wr HB.out s hlt
        have hk := HCL.out s hlt
        obtain ⟨k, hke⟩ : ∃ k, cl s = k := ⟨_, rfl⟩
        rw [hke] at l0 hk
        have h1 : wr.cell? ⟨hb, 1, none⟩ = some (.slice (some ⟨ab, 0, none⟩) count count) := blk_cell HH.out.blk 1
        have g1 : wr.cell? ⟨g, 1, none⟩ = some (.slice aga T.n agc) := blk_cell hgr.blk 1
        obtain ⟨aga', agc', ha, -, hcell⟩ := hgr.accAt
        injection ha with e1 e2 e3
        subst e1 e3
        obtain ⟨gab, rfl, -, -, hcell⟩ := hcell (by omega)
        have a1 := hcell s hlt
        have k1 : wr.cell? ⟨ab, k, none⟩ = some (.bool (jacc T cl s k)) := HH.out.acc.get (by simp [hk])
        have f1 := HH.out.acc.frozen k
        have i1 : (s : Int) < (T.n : Int) := by omega
        have i2 : (k : Int) < (count : Int) := by omega
        obtain ⟨bv, hbv⟩ : ∃ b, T.acc s = b := ⟨_, rfl⟩
        rw [hbv] at a1
        have HGR := Lib.hid hgr
        have HKE := Lib.hid hke
        have HBV := Lib.hid hbv
        clear hgr hke hbv hcell e2
        go_upto_region 5 with fail
        have hG1 : GraphAt (wr.setCell ⟨ab, k, none⟩ (.bool bv)).drew w.heap.size hb (.slice (some ⟨nb, 0, none⟩) count count) (.slice (some ⟨ab, 0, none⟩) count count) ⟨count, jacc T cl (s + 1), jnx T cl s⟩ :=
          ((GraphAt.setAcc (T := ⟨count, jacc T cl s, jnx T cl s⟩) (k := k) HH.out bv).drew).congr rfl (fun q _ => by
            show (if q = k then bv else jacc T cl s q) = (if cl s = q then T.acc s else jacc T cl s q)
            rw [HKE.out, HBV.out]
            by_cases e : q = k
            · rw [if_pos e, if_pos e.symm]
            · rw [if_neg e, if_neg (fun e9 => e e9.symm)]) (fun _ _ _ _ => rfl)
        have hB1 := (HB.out.setCell (p := ⟨ab, k, none⟩) ((HH.out.acc.lt ab rfl).1) (.bool bv)).drew
        have hgr := HG.out _ hB1
        have g0 : (wr.setCell ⟨ab, k, none⟩ (.bool bv)).cell? ⟨g, 0, none⟩ = some (.slice nga T.n ngc) := blk_cell hgr.blk 0
        obtain ⟨gb, gc, hv, -, -, -, hrg⟩ := hgr.range hlt
        injection hv with e1 e2 e3
        subst e1 e3
        have HG1 := Lib.hid hG1
        have HB1 := Lib.hid hB1
        have HRG := Lib.hid hrg
        clear hG1 hB1 HH HB hgr hrg e2 HGR
        go_still_tail 12, (by kernel_rfl)
        change wpList _ _ _ _ _ (World.drew _)
        go_upto_region 7 with (with_reducible refine wp_row_load HRG.out rfl _ rfl rfl ?_)
        clear g0 HRG k1 f1 h1 g1 a1 l0
        generalize (wr.setCell ⟨ab, k, none⟩ (.bool bv)).drew = X1 at HG1 HB1 ⊢
        have hG2 : GraphAt X1 w.heap.size hb (.slice (some ⟨nb, 0, none⟩) count count) (.slice (some ⟨ab, 0, none⟩) count count) ⟨count, jacc T cl (s + 1), jpart T cl s 0⟩ := HG1.out.congr rfl (fun _ _ => rfl) (fun q c _ _ => by
          show jnx T cl s q c = jpart T cl s 0 q c
          unfold jpart; rw [if_neg (by omega)])
        have HG2 := Lib.hid hG2
        clear hG2 HG1
        go_loopw [45] (fun s45 wr => ∃ (b : Nat), s45 = .int .i64 (b : Nat) ∧ b ≤ 256 ∧ RowKit.Hid (GraphAt wr w.heap.size hb (.slice (some ⟨nb, 0, none⟩) count count) (.slice (some ⟨ab, 0, none⟩) count count) ⟨count, jacc T cl (s + 1), jpart T cl s b⟩) ∧ RowKit.Hid (Below w.heap.size w wr)) (fun s45 _ => 256 - (intOf s45).toNat)
        case atStart => exact ⟨0, rfl, Nat.zero_le _, HG2, HB1⟩
        case round =>
          clear HG2 HB1
          obtain ⟨b, rfl, hb256, HH, HB⟩ := hrel
          by_cases hb2 : b < 256
          · have hxn := HR.out s b hlt hb2
            obtain ⟨x, hx⟩ : ∃ x, T.nx s b = x := ⟨_, rfl⟩
            have hix : ∀ X, (Instr.index 136 (.agg (rowV (T.nx s)).toArray) (.int .i64 (b : Nat))).run Tryd.prog X = .ok (.int .i64 ((x : Nat) : Int)) X := fun X => by rw [← hx]; exact run_index_arr X (T.nx s) hb2
            rw [hx] at hxn
            have l1 := HCC.out wr HB.out x hxn
            obtain ⟨y, hy⟩ : ∃ y, cl x = y := ⟨_, rfl⟩
            rw [hy] at l1
            have n1 : wr.cell? ⟨hb, 0, none⟩ = some (.slice (some ⟨nb, 0, none⟩) count count) := blk_cell HH.out.blk 0
            have n2 : wr.cell? ⟨nb, k * 256 + b, none⟩ = some (.int .i64 ((jpart T cl s b k b : Nat) : Int)) := by
              have h9 := World.ownsRow.cells HH.out.next (g := nb) rfl _ _ (flatN_get (jpart T cl s b) hk hb2)
              rw [addr_add, Nat.zero_add] at h9
              exact h9
            have n3 : wr.frozen? ⟨nb, k * 256 + b, none⟩ = false := World.ownsRow.frozenAt HH.out.next _
            have i3 : (x : Int) < (T.n : Int) := by omega
            have i4 : (k : Int) < (count : Int) := by omega
            have i5 : (b : Int) < 256 := by omega
            have hG3 : GraphAt (wr.setCell ⟨nb, k * 256 + b, none⟩ (.int .i64 ((y : Nat) : Int))).drew w.heap.size hb (.slice (some ⟨nb, 0, none⟩) count count) (.slice (some ⟨ab, 0, none⟩) count count) ⟨count, jacc T cl (s + 1), jpart T cl s (b + 1)⟩ :=
              ((GraphAt.setNx (T := ⟨count, jacc T cl (s + 1), jpart T cl s b⟩) HH.out hk hb2 y).drew).congr rfl (fun _ _ => rfl) (fun q c _ _ => by
                show (if q = k ∧ c = b then y else jpart T cl s b q c) = jpart T cl s (b + 1) q c
                unfold jpart
                rw [HKE.out]
                by_cases e1 : q = k
                · by_cases e2 : c = b
                  · rw [if_pos ⟨e1, e2⟩, if_pos ⟨e1, by omega⟩, e2, hx, hy]
                  · rw [if_neg (fun e9 => e2 e9.2)]
                    by_cases e3 : c < b
                    · rw [if_pos ⟨e1, e3⟩, if_pos ⟨e1, by omega⟩]
                    · rw [if_neg (fun e9 => e3 e9.2), if_neg (fun e9 => by omega)]
                · rw [if_neg (fun e9 => e1 e9.1), if_neg (fun e9 => e1 e9.1), if_neg (fun e9 => e1 e9.1)])
            have hB3 := (HB.out.setCell (p := ⟨nb, k * 256 + b, none⟩) ((World.ownsRow.lt HH.out.next nb rfl).1) (.int .i64 ((y : Nat) : Int))).drew
            have HG3 := Lib.hid hG3
            have HB3 := Lib.hid hB3
            clear hG3 hB3 HH HB hx hy
            go_upto_region 9 with fail
            clear hix
            go_still_tail 11, (by kernel_rfl)
            change wpList _ _ _ _ _ (World.drew _)
            go_wp2
            generalize (wr.setCell ⟨nb, k * 256 + b, none⟩ (.int .i64 ((y : Nat) : Int))).drew = X3 at HG3 HB3 ⊢
            go_roundw
            case rel => exact ⟨b + 1, by go_num, by omega, HG3, HB3⟩
            case measure => simp [intOf]; omega
          · obtain rfl : b = 256 := by omega
            have hG4 : GraphAt wr w.heap.size hb (.slice (some ⟨nb, 0, none⟩) count count) (.slice (some ⟨ab, 0, none⟩) count count) ⟨count, jacc T cl (s + 1), jnx T cl (s + 1)⟩ := HH.out.congr rfl (fun _ _ => rfl) (fun q c _ hc => by
              show jpart T cl s 256 q c = (if cl s = q then cl (T.nx s c) else jnx T cl s q c)
              unfold jpart
              by_cases e : q = cl s
              · rw [if_pos ⟨e, hc⟩, if_pos e.symm]
              · rw [if_neg (fun e9 => e e9.1), if_neg (fun e9 => e e9.symm)])
            have HG4 := Lib.hid hG4
            clear hG4 HH
            go_wp2
            go_roundw
            case rel => exact ⟨s + 1, by go_num, by omega, HG4, HB⟩
            case measure => simp [intOf]; omega
      · obtain rfl : s = T.n := by omega
        go_wp2
        go_ret
        exact ⟨hb, _, _, rfl, HH.out, HB.out⟩
end Go.Proofs.YtejmjjgbbojfbaaDoor
