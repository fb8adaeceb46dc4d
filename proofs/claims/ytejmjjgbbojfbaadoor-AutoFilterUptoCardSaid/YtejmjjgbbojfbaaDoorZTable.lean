/- auto: Table of whatever machine: the least table of its language, or ErrStates. -/
import Derived.Test.YtejmjjgbbojfbaaDoorZTabF
import Derived.Test.YtejmjjgbbojfbaaDoorZLeastF
import Derived.Test.YtejmjjgbbojfbaaDoorZG16
namespace Go.Proofs.YtejmjjgbbojfbaaDoor
set_option linter.unusedVariables false
open Go.ChangeShapes Go.WideShapes Go.ChangeAt Go.RowKit

def TableOk (w : World) (M : Mach) (m : Int) (e : Ending) (w' : World) : Prop := ∃ (A X : Option Addr) (ca cx : Nat) (T : Tab) (N : Nat), e = .returned (.tuple #[.agg #[.int .i64 0, .slice A T.n ca, .slice X (256 * T.n) cx], .nilIface]) ∧ TabAt w' w.heap.size A X ca cx T ∧ Canon T (langM M) ∧ 0 < T.n ∧ T.n ≤ N ∧ LyW M N ∧ (N : Int) ≤ m ∧ Below w.heap.size w w'
def TableNo (w : World) (M : Mach) (m : Int) (EA : Nat → Addr) (e : Ending) (w' : World) : Prop := e = .returned (.tuple #[.agg #[.int .i64 0, .slice none 0 0, .slice none 0 0], errV EA 15]) ∧ (m < 1 ∨ ∃ k p : Nat, (k : Int) = m ∧ LyNo M k p) ∧ Below w.heap.size w w'
def TableP (w : World) (M : Mach) (m : Int) (EA : Nat → Addr) (e : Ending) (w' : World) : Prop := TableOk w M m e w' ∨ TableNo w M m EA e w'
theorem canon_of {M : Mach} {N K : Nat} {H : Tab} {cl : Nat → Nat} (hl : LyW M N) (hq : Quot (layT M N) H cl) (h0 : cl 0 = 0) (hH : 0 < H.n) (hw : Walked H K) (hK : 0 < K) : Canon (metTab H (mts H (256 * K))) (langM M) := by
  have hL := lyW_lay hl
  have hrT : ∀ s c, s < (layT M N).n → c < 256 → (layT M N).nx s c < (layT M N).n := fun s c hs hc => (hL.nx s c hs hc).1
  refine walked_canon hw hH (join_rng hq hrT) hK (fun w hw => ?_) (hq.apart hrT)
  have h9 := hq.lang hrT hL.pos hw
  rw [h0] at h9
  rw [h9]
  exact hL.lang w hw
set_option maxRecDepth 100000 in
theorem lay_low (w : World) (p : Nat) (most : Int) (h : most < 1) : Calls Tryd.prog 52 #[.pointer (some ⟨p, 0, none⟩), .int .i64 most] w fun e w' => e = .returned (.tuple #[.pointer none, .bool false]) ∧ w = w' := by
  go_enter Tryd.func52, Tryd.ntmps52
  go_wp2
  go_ret2
  exact ⟨rfl, rfl⟩
set_option maxRecDepth 100000 in
set_option maxHeartbeats 4000000 in
theorem tabl_any (w : World) (p : Nat) (M : Mach) (h : IsAuto w p M) (most : Int) (EA : Nat → Addr) (hE : w.cell? ⟨0, 0, none⟩ = some (errV EA 15)) :
    Calls Tryd.prog 32 #[.pointer (some ⟨p, 0, none⟩), .int .i64 most] w (TableP w M (min most 1024) EA) := by
  have hb1 : Below w.heap.size w (w.alloc (.cells #[.int .i64 0, .slice none 0 0, .slice none 0 0] 54)) := (Below.refl _ _).alloc (Nat.le_refl _) _
  have hr1 := heap_alloc_new w (.cells #[.int .i64 0, .slice none 0 0, .slice none 0 0] 54)
  have hz1 : (w.alloc (.cells #[.int .i64 0, .slice none 0 0, .slice none 0 0] 54)).heap.size = w.heap.size + 1 := by simp
  have hgl : 0 < w.heap.size := World.block_lt_of_cell? w _ hE
  have HE := Lib.hid (show ∀ X, Below w.heap.size w X → X.cell? ⟨0, 0, none⟩ = some (errV EA 15) from fun X e => by rw [e.cell (p := ⟨0, 0, none⟩) hgl]; exact hE)
  have hA := h.below hb1
  obtain ⟨m, hm⟩ : ∃ m, min most 1024 = m := ⟨_, rfl⟩
  rw [hm]
  have hm2 : m ≤ 1024 := by omega
  have HB1 := Lib.hid hb1
  have HR1 := Lib.hid hr1
  have HZ1 := Lib.hid hz1
  have HA := Lib.hid hA
  clear h hE hb1 hr1 hA hz1
  obtain ⟨rs, hrs⟩ : ∃ rs, rs = w.heap.size := ⟨_, rfl⟩
  have hrs1 : w.heap.size ≤ rs := by omega
  have hrs2 : rs < w.heap.size + 1 := by omega
  go_enter Tryd.func32, Tryd.ntmps32
  go_upto_region 1 with fail
  generalize w.alloc (.cells #[.int .i64 0, .slice none 0 0, .slice none 0 0] 54) = W at HB1 HR1 HZ1 HA ⊢
  rw [← hrs] at HR1 ⊢
  clear hrs
  by_cases hlow : m < 1
  · have C1 := lay_low W p m hlow
    have hNo := Lib.hid (show m < 1 ∨ ∃ k p : Nat, (k : Int) = m ∧ LyNo M k p from .inl hlow)
    clear hlow
    go_upto_region 3 with (with_reducible refine C1.mono ?_; rintro e w1 ⟨rfl, rfl⟩)
    have r0 : W.cell? ⟨rs, 0, none⟩ = some (.int .i64 0) := blk_cell HR1.out 0
    have r1 : W.cell? ⟨rs, 1, none⟩ = some (.slice none 0 0) := blk_cell HR1.out 1
    have r2 : W.cell? ⟨rs, 2, none⟩ = some (.slice none 0 0) := blk_cell HR1.out 2
    have f0 := blk_frozen HR1.out 0
    have f1 := blk_frozen HR1.out 1
    have f2 := blk_frozen HR1.out 2
    have r0d : W.drew.cell? ⟨rs, 0, none⟩ = some (.int .i64 0) := r0
    have r1d : W.drew.cell? ⟨rs, 1, none⟩ = some (.slice none 0 0) := r1
    have r2d : W.drew.cell? ⟨rs, 2, none⟩ = some (.slice none 0 0) := r2
    have f0d : W.drew.frozen? ⟨rs, 0, none⟩ = false := f0
    have f1d : W.drew.frozen? ⟨rs, 1, none⟩ = false := f1
    have f2d : W.drew.frozen? ⟨rs, 2, none⟩ = false := f2
    have hbd := (HB1.out).drew
    have hrd : W.drew.heap[rs]? = some (.cells #[.int .i64 0, .slice none 0 0, .slice none 0 0] 54 (0, 0)) := HR1.out
    have hS0 := HE.out _ hbd
    clear r0 r1 r2 f0 f1 f2
    refine wp_region_noPanic ?_
    refine wp_region_held_drew (S := fun X => X.cell? ⟨0, 0, none⟩ = some (errV EA 15)) (by kernel_rfl) hS0 (fun hHeld => ?_)
    generalize World.drew W = X0 at hbd hrd r0d r1d r2d f0d f1d f2d hHeld hS0 ⊢
    have hb9 := ((hbd.setCell (p := ⟨rs, 0, none⟩) hrs1 (.int .i64 0)).setCell (p := ⟨rs, 1, none⟩) hrs1 (.slice none 0 0)).setCell (p := ⟨rs, 2, none⟩) hrs1 (.slice none 0 0)
    have t3 := blk_set (blk_set (blk_set hrd 0 (.int .i64 0)) 1 (.slice none 0 0)) 2 (.slice none 0 0)
    have HB9 := Lib.hid hb9
    have HT3 := Lib.hid t3
    clear hb9 t3 hS0
    refine wpAnyH_take (i := 0) (v := ?_) rfl (by kernel_rfl) (by kernel_rfl) (by kernel_rfl) (fun _ _ _ h => h) (Or.inl ⟨by kernel_rfl, ?_⟩) hHeld ?_
    rotate_left
    · intro w hSw
      go_simp
      try with_reducible rfl
    refine wpAnyH_take (i := 1) (v := ?_) rfl (by kernel_rfl) (by kernel_rfl) (by kernel_rfl) (fun _ _ _ h => h) (Or.inl ⟨by kernel_rfl, ?_⟩) hHeld ?_
    rotate_left
    · intro w hSw
      go_simp
      try with_reducible rfl
    refine wpAnyH_ready (rs := [2]) (by kernel_rfl) (by simp) ?_
    refine AllReadyH.cons rfl (fun KK hKK => ?_) ?_
    rotate_left
    · exact AllReadyH.nil
    rw [if_pos (by kernel_rfl)]
    go_simp
    refine hKK.out _ _ (HE.out _ HB9.out) (fun hHeld => ?_)
    clear hKK KK r0d r1d r2d f0d f1d f2d hrd hbd
    refine wpAnyH_take (i := 3) (v := ?_) rfl (by kernel_rfl) (by kernel_rfl) (by kernel_rfl) (fun _ _ _ h => h) (Or.inl ⟨by kernel_rfl, ?_⟩) hHeld ?_
    rotate_left
    · intro w hSw
      go_simp
      try with_reducible rfl
    clear hHeld
    refine wpAnyH_done (by kernel_rfl) ?_ _
    refine NoPanic.normal ?_
    generalize ((X0.setCell ⟨rs, 0, none⟩ (.int .i64 0)).setCell ⟨rs, 1, none⟩ (.slice none 0 0)).setCell ⟨rs, 2, none⟩ (.slice none 0 0) = X9 at HB9 HT3 ⊢
    go_wp2_with fail
    have zc0 : X9.cell? ⟨rs, 0, none⟩ = some (.int .i64 0) := blk_cell HT3.out 0
    have zc1 : X9.cell? ⟨rs, 1, none⟩ = some (.slice none 0 0) := blk_cell HT3.out 1
    have zc2 : X9.cell? ⟨rs, 2, none⟩ = some (.slice none 0 0) := blk_cell HT3.out 2
    refine bodyPost_ret (v := .tuple #[.agg #[.int .i64 0, .slice none 0 0, .slice none 0 0], errV EA 15]) (by simp [results, Tryd.results32, go_sem, zc0, zc1, zc2]; try rfl) rfl ?_
    exact .inr ⟨rfl, hNo.out, HB9.out⟩
  · obtain ⟨k, hk⟩ : ∃ k : Nat, (k : Int) = m := ⟨m.toNat, by omega⟩
    have C1 := lay_any W p M HA.out k (by omega) (by omega)
    have hmk : min most 1024 = (k : Int) := by omega
    have HMN := Lib.hid hmk
    rw [hmk] at hm
    clear hmk
    go_wp2_with fail
    rw [HMN.out]
    refine C1.mono ?_
    rintro e w1 hpost
    rcases hpost with ⟨g, nv, av, N, rfl, hg, hlw, hN, hb⟩ | ⟨rfl, hno, hb⟩
    · have hbw := HB1.out.trans (hb.mono HB1.out.size)
      have hrs3 := (hb.block rs (by rw [HZ1.out]; omega)).trans HR1.out
      have hlay := lyW_lay hlw
      have hrT : ∀ s c, s < (layT M N).n → c < 256 → (layT M N).nx s c < (layT M N).n := fun s c hs hc => (hlay.nx s c hs hc).1
      have hNn : N ≤ 1024 := by omega
      have C2 := least_any w1 W.heap.size g nv av (layT M N) hg hNn hlay.pos hrT
      have HBW := Lib.hid hbw
      have HR3 := Lib.hid hrs3
      have HLW := Lib.hid hlw
      have HRT := Lib.hid hrT
      clear C1 hg hlw hb hbw hrs3 hlay hrT HR1 HB1 HZ1 HA
      go_upto_region 4 with fail
      go_wp2_with (with_reducible refine C2.mono ?_)
      rintro e w2 ⟨h2, nv2, av2, cl, H, rfl, hg2, hq, hc0, hH0, hHN, hb2⟩
      have hHN2 : H.n ≤ N := hHN
      have C3 := table_any w2 w1.heap.size h2 nv2 av2 H hg2 (by omega) hH0 (join_rng hq HRT.out)
      have hbw2 := HBW.out.trans (hb2.mono HBW.out.size)
      have hrs4 := (hb2.block rs (lt_of_heap HR3.out)).trans HR3.out
      have HBW2 := Lib.hid hbw2
      have HR4 := Lib.hid hrs4
      have HQ := Lib.hid hq
      clear C2 hg2 hq hb2 hbw2 hrs4 hHN HR3 HBW
      go_wp2_with (with_reducible refine C3.mono ?_)
      rintro e w3 ⟨A, X, ca, cx, K, rfl, htab, hlen, hwk, hK0, hKH, hb3⟩
      have hcan := canon_of HLW.out HQ.out hc0 hH0 hwk hK0
      obtain ⟨TT, hTT⟩ : ∃ TT, metTab H (mts H (256 * K)) = TT := ⟨_, rfl⟩
      have hTn : TT.n = K := by rw [← hTT]; exact hlen
      rw [hTT] at htab hcan
      have hbw3 := HBW2.out.trans (hb3.mono HBW2.out.size)
      have hrs5 := (hb3.block rs (lt_of_heap HR4.out)).trans HR4.out
      have r0 : w3.cell? ⟨rs, 0, none⟩ = some (.int .i64 0) := blk_cell hrs5 0
      have r1 : w3.cell? ⟨rs, 1, none⟩ = some (.slice none 0 0) := blk_cell hrs5 1
      have r2 : w3.cell? ⟨rs, 2, none⟩ = some (.slice none 0 0) := blk_cell hrs5 2
      have f0 := blk_frozen hrs5 0
      have f1 := blk_frozen hrs5 1
      have f2 := blk_frozen hrs5 2
      have s1 := blk_set hrs5 0 (.int .i64 0)
      have s2 := blk_set s1 1 (.slice A K ca)
      have s3 := blk_set s2 2 (.slice X (256 * K) cx)
      have htm := htab.mono HBW2.out.size
      have hB3 := ((hbw3.setCell (p := ⟨rs, 0, none⟩) hrs1 (.int .i64 0)).setCell (p := ⟨rs, 1, none⟩) hrs1 (.slice A K ca)).setCell (p := ⟨rs, 2, none⟩) hrs1 (.slice X (256 * K) cx)
      have hA3 := ((htm.acc.setOther (p := ⟨rs, 0, none⟩) (htm.acc.ne_type hrs5 (by decide)) (.int .i64 0)).setOther (p := ⟨rs, 1, none⟩) (htm.acc.ne_type hrs5 (by decide)) (.slice A K ca)).setOther (p := ⟨rs, 2, none⟩) (htm.acc.ne_type hrs5 (by decide)) (.slice X (256 * K) cx)
      have hN3 := ((htm.nx.setOther (p := ⟨rs, 0, none⟩) (htm.nx.ne_type hrs5 (by decide)) (.int .i64 0)).setOther (p := ⟨rs, 1, none⟩) (htm.nx.ne_type hrs5 (by decide)) (.slice A K ca)).setOther (p := ⟨rs, 2, none⟩) (htm.nx.ne_type hrs5 (by decide)) (.slice X (256 * K) cx)
      have HA3 := Lib.hid hA3
      have HN3 := Lib.hid hN3
      have HB3 := Lib.hid hB3
      have HS3 := Lib.hid s3
      have HCAN := Lib.hid hcan
      have HTN := Lib.hid hTn
      clear C3 hTT hTn hcan hbw3 hrs5 htm s1 s2 s3 hA3 hN3 hB3 htab hlen hwk hb3 HQ
      go_wp2_with fail
      generalize ((w3.setCell ⟨rs, 0, none⟩ (.int .i64 0)).setCell ⟨rs, 1, none⟩ (.slice A K ca)).setCell ⟨rs, 2, none⟩ (.slice X (256 * K) cx) = X9 at HA3 HN3 HB3 HS3 ⊢
      clear r0 r1 r2 f0 f1 f2
      have zc0 : X9.cell? ⟨rs, 0, none⟩ = some (.int .i64 0) := blk_cell HS3.out 0
      have zc1 : X9.cell? ⟨rs, 1, none⟩ = some (.slice A K ca) := blk_cell HS3.out 1
      have zc2 : X9.cell? ⟨rs, 2, none⟩ = some (.slice X (256 * K) cx) := blk_cell HS3.out 2
      refine bodyPost_ret (v := .tuple #[.agg #[.int .i64 0, .slice A K ca, .slice X (256 * K) cx], .nilIface]) (by simp [results, Tryd.results32, go_sem, zc0, zc1, zc2]; try rfl) rfl ?_
      refine .inl ⟨A, X, ca, cx, TT, N, ?_, ⟨HA3.out, HN3.out⟩, HCAN.out, ?_, ?_, HLW.out, by omega, HB3.out⟩
      · rw [HTN.out]
      · rw [HTN.out]; exact hK0
      · rw [HTN.out]; omega
    · have hbw := HB1.out.trans (hb.mono HB1.out.size)
      have hrs3 := (hb.block rs (by rw [HZ1.out]; omega)).trans HR1.out
      have HB2 := Lib.hid hbw
      have HR2 := Lib.hid hrs3
      have hNo := Lib.hid (show m < 1 ∨ ∃ k p : Nat, (k : Int) = m ∧ LyNo M k p from by rw [← hk]; exact hno)
      clear C1 hbw hrs3 hno hb
      go_upto_region 3 with fail
      have r0 : w1.cell? ⟨rs, 0, none⟩ = some (.int .i64 0) := blk_cell HR2.out 0
      have r1 : w1.cell? ⟨rs, 1, none⟩ = some (.slice none 0 0) := blk_cell HR2.out 1
      have r2 : w1.cell? ⟨rs, 2, none⟩ = some (.slice none 0 0) := blk_cell HR2.out 2
      have f0 := blk_frozen HR2.out 0
      have f1 := blk_frozen HR2.out 1
      have f2 := blk_frozen HR2.out 2
      have r0d : w1.drew.cell? ⟨rs, 0, none⟩ = some (.int .i64 0) := r0
      have r1d : w1.drew.cell? ⟨rs, 1, none⟩ = some (.slice none 0 0) := r1
      have r2d : w1.drew.cell? ⟨rs, 2, none⟩ = some (.slice none 0 0) := r2
      have f0d : w1.drew.frozen? ⟨rs, 0, none⟩ = false := f0
      have f1d : w1.drew.frozen? ⟨rs, 1, none⟩ = false := f1
      have f2d : w1.drew.frozen? ⟨rs, 2, none⟩ = false := f2
      have hbd := (HB2.out).drew
      have hrd : w1.drew.heap[rs]? = some (.cells #[.int .i64 0, .slice none 0 0, .slice none 0 0] 54 (0, 0)) := HR2.out
      have hS0 := HE.out _ hbd
      clear r0 r1 r2 f0 f1 f2
      refine wp_region_noPanic ?_
      refine wp_region_held_drew (S := fun X => X.cell? ⟨0, 0, none⟩ = some (errV EA 15)) (by kernel_rfl) hS0 (fun hHeld => ?_)
      generalize World.drew w1 = X0 at hbd hrd r0d r1d r2d f0d f1d f2d hHeld hS0 ⊢
      have hb9 := ((hbd.setCell (p := ⟨rs, 0, none⟩) hrs1 (.int .i64 0)).setCell (p := ⟨rs, 1, none⟩) hrs1 (.slice none 0 0)).setCell (p := ⟨rs, 2, none⟩) hrs1 (.slice none 0 0)
      have t3 := blk_set (blk_set (blk_set hrd 0 (.int .i64 0)) 1 (.slice none 0 0)) 2 (.slice none 0 0)
      have HB9 := Lib.hid hb9
      have HT3 := Lib.hid t3
      clear hb9 t3 hS0
      refine wpAnyH_take (i := 0) (v := ?_) rfl (by kernel_rfl) (by kernel_rfl) (by kernel_rfl) (fun _ _ _ h => h) (Or.inl ⟨by kernel_rfl, ?_⟩) hHeld ?_
      rotate_left
      · intro w hSw
        go_simp
        try with_reducible rfl
      refine wpAnyH_take (i := 1) (v := ?_) rfl (by kernel_rfl) (by kernel_rfl) (by kernel_rfl) (fun _ _ _ h => h) (Or.inl ⟨by kernel_rfl, ?_⟩) hHeld ?_
      rotate_left
      · intro w hSw
        go_simp
        try with_reducible rfl
      refine wpAnyH_ready (rs := [2]) (by kernel_rfl) (by simp) ?_
      refine AllReadyH.cons rfl (fun KK hKK => ?_) ?_
      rotate_left
      · exact AllReadyH.nil
      rw [if_pos (by kernel_rfl)]
      go_simp
      refine hKK.out _ _ (HE.out _ HB9.out) (fun hHeld => ?_)
      clear hKK KK r0d r1d r2d f0d f1d f2d hrd hbd
      refine wpAnyH_take (i := 3) (v := ?_) rfl (by kernel_rfl) (by kernel_rfl) (by kernel_rfl) (fun _ _ _ h => h) (Or.inl ⟨by kernel_rfl, ?_⟩) hHeld ?_
      rotate_left
      · intro w hSw
        go_simp
        try with_reducible rfl
      clear hHeld
      refine wpAnyH_done (by kernel_rfl) ?_ _
      refine NoPanic.normal ?_
      generalize ((X0.setCell ⟨rs, 0, none⟩ (.int .i64 0)).setCell ⟨rs, 1, none⟩ (.slice none 0 0)).setCell ⟨rs, 2, none⟩ (.slice none 0 0) = X9 at HB9 HT3 ⊢
      go_wp2_with fail
      have zc0 : X9.cell? ⟨rs, 0, none⟩ = some (.int .i64 0) := blk_cell HT3.out 0
      have zc1 : X9.cell? ⟨rs, 1, none⟩ = some (.slice none 0 0) := blk_cell HT3.out 1
      have zc2 : X9.cell? ⟨rs, 2, none⟩ = some (.slice none 0 0) := blk_cell HT3.out 2
      refine bodyPost_ret (v := .tuple #[.agg #[.int .i64 0, .slice none 0 0, .slice none 0 0], errV EA 15]) (by simp [results, Tryd.results32, go_sem, zc0, zc1, zc2]; try rfl) rfl ?_
      exact .inr ⟨rfl, hNo.out, HB9.out⟩
end Go.Proofs.YtejmjjgbbojfbaaDoor
