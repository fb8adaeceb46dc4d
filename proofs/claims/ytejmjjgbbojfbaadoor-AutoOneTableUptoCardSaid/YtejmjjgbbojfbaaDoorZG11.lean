/- Merged: SameT, TableOf. -/
import Derived.Test.YtejmjjgbbojfbaaDoorZG10
import Derived.Test.YtejmjjgbbojfbaaDoorZTable
/- The law's sameTable, SameInts: of alike tables they are true. -/
namespace Go.Proofs.YtejmjjgbbojfbaaDoor
set_option linter.unusedVariables false
open Go.ChangeShapes Go.WideShapes Go.ChangeAt Go.RowKit

theorem rd_nats {w : World} {a : Option Addr} {n c : Nat} {l : List Nat} (h : Rd w (.slice a n c) (natsV l)) : n = l.length ∧ l.length ≤ c ∧ (0 < l.length → ∃ b o, a = some ⟨b, o, none⟩ ∧ ∀ i (hi : i < l.length), w.cell? ⟨b, o + i, none⟩ = some (.int .i64 ((l[i] : Nat) : Int))) := by
  obtain ⟨A, c', e, hc, hg⟩ := h
  injection e with e1 e2 e3
  subst e1 e2 e3
  rw [natsV_length] at hg hc
  refine ⟨natsV_length l, hc, fun h0 => ?_⟩
  obtain ⟨b, o, rfl, hc⟩ := hg h0
  exact ⟨b, o, rfl, fun i hi => hc i _ (natsV_get hi)⟩
set_option maxRecDepth 100000 in
theorem samei_eq (w : World) (a a' : Option Addr) (n n' c c' : Nat) (l : List Nat) (h : Rd w (.slice a n c) (natsV l)) (h' : Rd w (.slice a' n' c') (natsV l)) (hl : l.length ≤ 1000000000) :
    Calls Tryd.prog 41 #[.slice a n c, .slice a' n' c'] w fun e w' => e = .returned (.bool true) ∧ ∃ d, w' = w.drewN d := by
  obtain ⟨rfl, -, hg⟩ := rd_nats h
  obtain ⟨rfl, -, hg'⟩ := rd_nats h'
  have HG := Lib.hid hg
  have HG' := Lib.hid hg'
  clear h h' hg hg'
  have q1 : ((l.length : Int) != (l.length : Int)) = false := by simp
  go_enter Tryd.func41, Tryd.ntmps41
  go_wp2
  go_loopw [13] (fun s13 wr => ∃ i d : Nat, s13 = .int .i64 (i : Nat) ∧ i ≤ l.length ∧ wr = w.drewN d) (fun s13 _ => l.length - (intOf s13).toNat)
  case atStart => exact ⟨0, 0, rfl, Nat.zero_le _, rfl⟩
  case round =>
    obtain ⟨i, d, rfl, hi, rfl⟩ := hrel
    by_cases hlt : i < l.length
    · obtain ⟨b, o, rfl, hc⟩ := HG.out (by omega)
      obtain ⟨b', o', rfl, hc'⟩ := HG'.out (by omega)
      have x1 := hc i hlt
      have x2 := hc' i hlt
      obtain ⟨v, hv⟩ : ∃ v, l[i] = v := ⟨_, rfl⟩
      rw [hv] at x1 x2
      have t1 : ((v : Int) != (v : Int)) = false := by simp
      have i1 : (i : Int) < (l.length : Int) := by omega
      clear hc hc' hv
      go_upto_region 6 with fail
      go_quiet (fail)
      go_wp2
      go_roundw
      case rel => exact ⟨i + 1, _, by go_num, by omega, by first | rfl | exact World.drewN_drewN ..⟩
      case measure => simp [intOf]; omega
    · obtain rfl : i = l.length := by omega
      go_wp2
      go_ret
      exact ⟨rfl, _, rfl⟩
theorem intsV_nats (f : Nat → Nat) (n : Nat) : intsV f n = natsV ((List.range n).map f) := by simp [intsV, natsV]
/-- Two tables that are alike. -/
structure TabEq (T T2 : Tab) : Prop where
  n : T.n = T2.n
  acc : ∀ s, s < T.n → T.acc s = T2.acc s
  nx : ∀ s c, s < T.n → c < 256 → T.nx s c = T2.nx s c
theorem canon_eq {T T2 : Tab} {L : List Nat → Bool} (h : Canon T L) (h2 : Canon T2 L) : TabEq T T2 := by
  obtain ⟨h1, h2, h3⟩ := canon_one h h2
  exact ⟨h1, h2, h3⟩
set_option maxRecDepth 100000 in
set_option maxHeartbeats 2000000 in
theorem samet_any (w : World) (B B2 : Nat) (A X A2 X2 : Option Addr) (ca cx ca2 cx2 : Nat) (T T2 : Tab) (h : TabAt w B A X ca cx T) (h2 : TabAt w B2 A2 X2 ca2 cx2 T2) (he : TabEq T T2) (hn : 0 < T.n) (hn2 : T.n ≤ 2000) :
    Calls Tryd.prog 30 #[.agg #[.int .i64 0, .slice A T.n ca, .slice X (256 * T.n) cx], .agg #[.int .i64 0, .slice A2 T2.n ca2, .slice X2 (256 * T2.n) cx2]] w fun e w' => e = .returned (.bool true) ∧ Below w.heap.size w w' := by
  have h2' : TabAt w B2 A2 X2 ca2 cx2 T := by
    refine ⟨?_, ?_⟩
    · have h9 := h2.acc
      rw [← he.n] at h9
      exact own_to h9 (List.map_congr_left fun s hs => by rw [he.acc s (List.mem_range.1 hs)])
    · have h9 := h2.nx
      rw [← he.n] at h9
      exact own_to h9 (intsV_congr fun j hj => (he.nx _ _ (by omega) (by omega)).symm)
  rw [← he.n]
  clear h2 he
  obtain ⟨yb, rfl, hyl, hyc, hy⟩ := h.accAt hn
  obtain ⟨yb2, rfl, hyl2, hyc2, hy2⟩ := h2'.accAt hn
  have hx1 := h.nx.rd
  have hx2 := h2'.nx.rd
  rw [intsV_nats] at hx1 hx2
  obtain ⟨o1, ho1⟩ : ∃ o, o = Obj.cells #[.int .i64 0, .slice (some ⟨yb, 0, none⟩) T.n ca, .slice X (256 * T.n) cx] 54 := ⟨_, rfl⟩
  obtain ⟨o2, ho2⟩ : ∃ o, o = Obj.cells #[.int .i64 0, .slice (some ⟨yb2, 0, none⟩) T.n ca2, .slice X2 (256 * T.n) cx2] 54 := ⟨_, rfl⟩
  have hb1 : Below w.heap.size w (w.alloc o1) := (Below.refl _ _).alloc (Nat.le_refl _) _
  have hb2 : Below w.heap.size w ((w.alloc o1).alloc o2) := hb1.alloc hb1.size _
  have hz1 : (w.alloc o1).heap.size = w.heap.size + 1 := by simp
  have k1 := (heap_al (o2 := o2) (heap_alloc_new w o1)).trans (congrArg some ho1)
  have k2 := (heap_alloc_new (w.alloc o1) o2).trans (congrArg some ho2)
  rw [hz1] at k2
  have HY := Lib.hid (show ∀ j, j < T.n → ((w.alloc o1).alloc o2).cell? ⟨yb, j, none⟩ = some (.bool (T.acc j)) ∧ ((w.alloc o1).alloc o2).cell? ⟨yb2, j, none⟩ = some (.bool (T.acc j)) from fun j hj => ⟨(hb2.cell (p := ⟨yb, j, none⟩) hyl).trans (hy j hj), (hb2.cell (p := ⟨yb2, j, none⟩) hyl2).trans (hy2 j hj)⟩)
  have HX1 := Lib.hid (hx1.below hb2 (Nat.le_refl _))
  have HX2 := Lib.hid (hx2.below hb2 (Nat.le_refl _))
  have HB := Lib.hid hb2
  have HO1 := Lib.hid ho1
  have HO2 := Lib.hid ho2
  have c0 : ((w.alloc o1).alloc o2).cell? ⟨w.heap.size, 0, none⟩ = some (.int .i64 0) := blk_cell k1 0
  have c1 : ((w.alloc o1).alloc o2).cell? ⟨w.heap.size, 1, none⟩ = some (.slice (some ⟨yb, 0, none⟩) T.n ca) := blk_cell k1 1
  have c2 : ((w.alloc o1).alloc o2).cell? ⟨w.heap.size, 2, none⟩ = some (.slice X (256 * T.n) cx) := blk_cell k1 2
  have d0 : ((w.alloc o1).alloc o2).cell? ⟨w.heap.size + 1, 0, none⟩ = some (.int .i64 0) := blk_cell k2 0
  have d1 : ((w.alloc o1).alloc o2).cell? ⟨w.heap.size + 1, 1, none⟩ = some (.slice (some ⟨yb2, 0, none⟩) T.n ca2) := blk_cell k2 1
  have d2 : ((w.alloc o1).alloc o2).cell? ⟨w.heap.size + 1, 2, none⟩ = some (.slice X2 (256 * T.n) cx2) := blk_cell k2 2
  have t0 : ((T.n : Int) != (T.n : Int)) = false := by simp
  clear h h2' hx1 hx2 hy hy2 hb1 hb2 k1 k2 ho1 ho2 hz1
  go_enter Tryd.func30, Tryd.ntmps30
  go_upto_region 1 with fail
  rw [← HO1.out, ← HO2.out]
  generalize (w.alloc o1).alloc o2 = W at c0 c1 c2 d0 d1 d2 HY HX1 HX2 HB ⊢
  generalize w.heap.size + 1 = z2 at d0 d1 d2 ⊢
  obtain ⟨z1, hz1⟩ : ∃ z, z = w.heap.size := ⟨_, rfl⟩
  rw [← hz1] at c0 c1 c2 ⊢
  have HZ1 := Lib.hid hz1
  clear hz1
  go_upto_region 4 with fail
  go_loopw [23] (fun s23 wr => ∃ i d : Nat, s23 = .int .i64 (i : Nat) ∧ i ≤ T.n ∧ wr = W.drewN d) (fun s23 _ => T.n - (intOf s23).toNat)
  case atStart => exact ⟨0, 0, rfl, Nat.zero_le _, rfl⟩
  case round =>
    obtain ⟨i, d, rfl, hi, rfl⟩ := hrel
    by_cases hlt : i < T.n
    · obtain ⟨x1, x2⟩ := HY.out i hlt
      obtain ⟨v, hv⟩ : ∃ v, T.acc i = v := ⟨_, rfl⟩
      rw [hv] at x1 x2
      have i1 : (i : Int) < (T.n : Int) := by omega
      clear hv
      cases v with
      | true =>
        go_upto_region 6 with fail
        go_quiet (fail)
        go_wp2
        go_roundw
        case rel => exact ⟨i + 1, _, by go_num, by omega, by first | rfl | exact World.drewN_drewN ..⟩
        case measure => simp [intOf]; omega
      | false =>
        go_upto_region 6 with fail
        go_quiet (fail)
        go_wp2
        go_roundw
        case rel => exact ⟨i + 1, _, by go_num, by omega, by first | rfl | exact World.drewN_drewN ..⟩
        case measure => simp [intOf]; omega
    · obtain rfl : i = T.n := by omega
      have C := samei_eq (W.drewN d) X X2 (256 * T.n) (256 * T.n) cx cx2 _ HX1.out HX2.out (by simp; omega)
      go_wp2_with (with_reducible refine C.mono ?_; rintro e w8 ⟨rfl, d8, rfl⟩)
      go_ret
      exact ⟨rfl, by first | exact below_drewN HB.out _ | exact below_drewN (below_drewN HB.out d) d8⟩
end Go.Proofs.YtejmjjgbbojfbaaDoor

/- The law's tableOf: a machine of few descriptions has a table. -/
namespace Go.Proofs.YtejmjjgbbojfbaaDoor
set_option linter.unusedVariables false
open Go.ChangeShapes Go.WideShapes Go.ChangeAt Go.RowKit

/-- A table's three cells. -/
def tabV (A X : Option Addr) (ca cx n : Nat) : Array Value := #[.int .i64 0, .slice A n ca, .slice X (256 * n) cx]
def TofPost (w : World) (M : Mach) (e : Ending) (w' : World) : Prop := ∃ (A X : Option Addr) (ca cx : Nat) (T : Tab), e = .returned (.tuple #[.agg #[.int .i64 0, .slice A T.n ca, .slice X (256 * T.n) cx], .bool true]) ∧ TabAt w' w.heap.size A X ca cx T ∧ Canon T (langM M) ∧ 0 < T.n ∧ T.n ≤ 1024 ∧ Below w.heap.size w w'
set_option maxRecDepth 100000 in
set_option maxHeartbeats 4000000 in
theorem tof_any (w : World) (p : Nat) (M : Mach) (h : IsAuto w p M) (hfew : ∀ q, ¬ LyNo M 1024 q) (EA : Nat → Addr) (hE : w.cell? ⟨0, 0, none⟩ = some (errV EA 15)) :
    Calls Tryd.prog 27 #[.pointer (some ⟨p, 0, none⟩), .nilIface] w (TofPost w M) := by
  have hb1 : Below w.heap.size w (w.alloc (.cells #[.int .i64 0, .slice none 0 0, .slice none 0 0] 54)) := (Below.refl _ _).alloc (Nat.le_refl _) _
  have hr1 := heap_alloc_new w (.cells #[.int .i64 0, .slice none 0 0, .slice none 0 0] 54)
  have C1 := tabl_any _ p M (h.below hb1) 1099511627776 EA (by rw [hb1.cell (World.block_lt_of_cell? w _ hE)]; exact hE)
  have hmin : min (1099511627776 : Int) 1024 = 1024 := rfl
  rw [hmin] at C1
  have HF := Lib.hid hfew
  have HB1 := Lib.hid hb1
  have HR1 := Lib.hid hr1
  obtain ⟨rs, hrs⟩ : ∃ rs, rs = w.heap.size := ⟨_, rfl⟩
  have hrs1 : w.heap.size ≤ rs := by omega
  clear h hE hb1 hr1 hfew hmin
  go_enter Tryd.func27, Tryd.ntmps27
  go_upto_region 1 with fail
  generalize w.alloc (.cells #[.int .i64 0, .slice none 0 0, .slice none 0 0] 54) = W at C1 HB1 HR1 ⊢
  rw [← hrs] at HR1 ⊢
  clear hrs
  go_wp2_with fail
  refine C1.mono ?_
  rintro e w1 hpost
  clear C1
  rcases hpost with ⟨A, X, ca, cx, T, N, rfl, htab, hcan, hn0, hnN, -, hN, hb2⟩ | ⟨-, hno, -⟩
  · have hbw := HB1.out.trans (hb2.mono HB1.out.size)
    have hrs3 := (hb2.block rs (lt_of_heap HR1.out)).trans HR1.out
    have hn2 : T.n ≤ 1024 := by omega
    have hb5 : Below w1.heap.size w1 (w1.alloc (.cells #[.int .i64 0, .slice A T.n ca, .slice X (256 * T.n) cx] 54)) := (Below.refl _ _).alloc (Nat.le_refl _) _
    have hblk := heap_alloc_new w1 (.cells #[.int .i64 0, .slice A T.n ca, .slice X (256 * T.n) cx] 54)
    have hbw5 := hbw.trans (hb5.mono hbw.size)
    have hrs5 := heap_al (o2 := .cells #[.int .i64 0, .slice A T.n ca, .slice X (256 * T.n) cx] 54) hrs3
    have ht5 := (htab.below hb5 (Nat.le_refl _)).mono HB1.out.size
    have hne : rs ≠ w1.heap.size := by have := lt_of_heap hrs3; omega
    have HC := Lib.hid hcan
    clear htab hcan hb2 hb5 hbw hrs3 HB1 HR1 hN hnN
    go_upto_region 4 with fail
    generalize w1.alloc (.cells #[.int .i64 0, .slice A T.n ca, .slice X (256 * T.n) cx] 54) = W5 at hblk hbw5 hrs5 ht5 ⊢
    generalize w1.heap.size = tb at hblk hne ⊢
    have hbd := hbw5.drew
    have hkd : W5.drew.heap[tb]? = some (.cells #[.int .i64 0, .slice A T.n ca, .slice X (256 * T.n) cx] 54 (0, 0)) := hblk
    have hrd : W5.drew.heap[rs]? = some (.cells #[.int .i64 0, .slice none 0 0, .slice none 0 0] 54 (0, 0)) := hrs5
    have htd : TabAt W5.drew w.heap.size A X ca cx T := ⟨ht5.acc, ht5.nx⟩
    clear hbw5 hblk hrs5 ht5
    have hS0 : W5.drew.cell? ⟨tb, 0, none⟩ = some (.int .i64 0) ∧ W5.drew.cell? ⟨tb, 1, none⟩ = some (.slice A T.n ca) ∧ W5.drew.cell? ⟨tb, 2, none⟩ = some (.slice X (256 * T.n) cx) := ⟨blk_cell hkd 0, blk_cell hkd 1, blk_cell hkd 2⟩
    refine wp_region_noPanic ?_
    refine wp_region_held_drew (S := fun Y => Y.cell? ⟨tb, 0, none⟩ = some (.int .i64 0) ∧ Y.cell? ⟨tb, 1, none⟩ = some (.slice A T.n ca) ∧ Y.cell? ⟨tb, 2, none⟩ = some (.slice X (256 * T.n) cx)) (by kernel_rfl) hS0 (fun hHeld => ?_)
    refine wpAnyH_take (i := 0) (v := ?_) rfl (by kernel_rfl) (by kernel_rfl) (by kernel_rfl) (fun _ _ _ h => h) (Or.inl ⟨by kernel_rfl, ?_⟩) hHeld ?_
    rotate_left
    · intro w hSw
      obtain ⟨z1, z2, z3⟩ := hSw
      go_simp
      try with_reducible rfl
    refine wpAnyH_take (i := 1) (v := ?_) rfl (by kernel_rfl) (by kernel_rfl) (by kernel_rfl) (fun _ _ _ h => h) (Or.inl ⟨by kernel_rfl, ?_⟩) hHeld ?_
    rotate_left
    · intro w hSw
      obtain ⟨z1, z2, z3⟩ := hSw
      go_simp
      try with_reducible rfl
    refine wpAnyH_take (i := 2) (v := ?_) rfl (by kernel_rfl) (by kernel_rfl) (by kernel_rfl) (fun _ _ _ h => h) (Or.inl ⟨by kernel_rfl, ?_⟩) hHeld ?_
    rotate_left
    · intro w hSw
      obtain ⟨z1, z2, z3⟩ := hSw
      go_simp
      try with_reducible rfl
    generalize World.drew W5 = X0 at hbd hkd hrd htd hHeld hS0 ⊢
    have r0 : X0.cell? ⟨rs, 0, none⟩ = some (.int .i64 0) := blk_cell hrd 0
    have r1 : X0.cell? ⟨rs, 1, none⟩ = some (.slice none 0 0) := blk_cell hrd 1
    have r2 : X0.cell? ⟨rs, 2, none⟩ = some (.slice none 0 0) := blk_cell hrd 2
    have f0 := blk_frozen hrd 0
    have f1 := blk_frozen hrd 1
    have f2 := blk_frozen hrd 2
    have s1 := blk_set hrd 0 (.int .i64 0)
    have s2 := blk_set s1 1 (.slice A T.n ca)
    have s3 := blk_set s2 2 (.slice X (256 * T.n) cx)
    have hB3 := ((hbd.setCell (p := ⟨rs, 0, none⟩) hrs1 (.int .i64 0)).setCell (p := ⟨rs, 1, none⟩) hrs1 (.slice A T.n ca)).setCell (p := ⟨rs, 2, none⟩) hrs1 (.slice X (256 * T.n) cx)
    have hA3 := ((htd.acc.setOther (p := ⟨rs, 0, none⟩) (htd.acc.ne_type hrd (by decide)) (.int .i64 0)).setOther (p := ⟨rs, 1, none⟩) (htd.acc.ne_type hrd (by decide)) (.slice A T.n ca)).setOther (p := ⟨rs, 2, none⟩) (htd.acc.ne_type hrd (by decide)) (.slice X (256 * T.n) cx)
    have hN3 := ((htd.nx.setOther (p := ⟨rs, 0, none⟩) (htd.nx.ne_type hrd (by decide)) (.int .i64 0)).setOther (p := ⟨rs, 1, none⟩) (htd.nx.ne_type hrd (by decide)) (.slice A T.n ca)).setOther (p := ⟨rs, 2, none⟩) (htd.nx.ne_type hrd (by decide)) (.slice X (256 * T.n) cx)
    have hk3 := (Below.heap_setCell ((X0.setCell ⟨rs, 0, none⟩ (.int .i64 0)).setCell ⟨rs, 1, none⟩ (.slice A T.n ca)) ⟨rs, 2, none⟩ (.slice X (256 * T.n) cx) tb (fun e => hne e.symm)).trans ((Below.heap_setCell (X0.setCell ⟨rs, 0, none⟩ (.int .i64 0)) ⟨rs, 1, none⟩ (.slice A T.n ca) tb (fun e => hne e.symm)).trans ((Below.heap_setCell X0 ⟨rs, 0, none⟩ (.int .i64 0) tb (fun e => hne e.symm)).trans hkd))
    have hS3 := And.intro (blk_cell hk3 0) (And.intro (blk_cell hk3 1) (blk_cell hk3 2))
    have HA3 := Lib.hid hA3
    have HN3 := Lib.hid hN3
    have HB3 := Lib.hid hB3
    have HS3 := Lib.hid s3
    have HK3 := Lib.hid hS3
    clear s1 s2 s3 hA3 hN3 hB3 hk3 hS3 htd hbd hkd hS0
    refine wpAnyH_ready (rs := [3]) (by kernel_rfl) (by simp) ?_
    refine AllReadyH.cons rfl (fun KK hKK => ?_) ?_
    rotate_left
    · exact AllReadyH.nil
    rw [if_pos (by kernel_rfl)]
    go_simp
    refine hKK.out _ _ HK3.out (fun hHeld => ?_)
    clear hKK KK r0 r1 r2 f0 f1 f2 HK3 hrd
    refine wpAnyH_take (i := 4) (v := ?_) rfl (by kernel_rfl) (by kernel_rfl) (by kernel_rfl) (fun _ _ _ h => h) (Or.inl ⟨by kernel_rfl, ?_⟩) hHeld ?_
    rotate_left
    · intro w hSw
      go_simp
      try with_reducible rfl
    clear hHeld
    refine wpAnyH_done (by kernel_rfl) ?_ _
    refine NoPanic.normal ?_
    generalize ((X0.setCell ⟨rs, 0, none⟩ (.int .i64 0)).setCell ⟨rs, 1, none⟩ (.slice A T.n ca)).setCell ⟨rs, 2, none⟩ (.slice X (256 * T.n) cx) = X9 at HA3 HN3 HB3 HS3 ⊢
    go_wp2_with fail
    have zc0 : X9.cell? ⟨rs, 0, none⟩ = some (.int .i64 0) := blk_cell HS3.out 0
    have zc1 : X9.cell? ⟨rs, 1, none⟩ = some (.slice A T.n ca) := blk_cell HS3.out 1
    have zc2 : X9.cell? ⟨rs, 2, none⟩ = some (.slice X (256 * T.n) cx) := blk_cell HS3.out 2
    refine bodyPost_ret (v := .tuple #[.agg #[.int .i64 0, .slice A T.n ca, .slice X (256 * T.n) cx], .bool true]) (by simp [results, Tryd.results27, go_sem, zc0, zc1, zc2]; try rfl) rfl ?_
    exact ⟨A, X, ca, cx, T, rfl, ⟨HA3.out, HN3.out⟩, HC.out, hn0, hn2, HB3.out⟩
  · exfalso
    rcases hno with hno | ⟨k, q, hk, hq⟩
    · omega
    · obtain rfl : k = 1024 := by omega
      exact HF.out q hq
end Go.Proofs.YtejmjjgbbojfbaaDoor
