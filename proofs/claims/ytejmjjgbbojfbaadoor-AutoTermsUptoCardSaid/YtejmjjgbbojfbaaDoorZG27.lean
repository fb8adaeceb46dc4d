/- Merged: Whole, SameT, AutoTermF. -/
import Derived.Test.YtejmjjgbbojfbaaDoorZG26
import Derived.Test.YtejmjjgbbojfbaaDoorZG23
import Derived.Test.YtejmjjgbbojfbaaDoorZWalkT
import Derived.Test.YtejmjjgbbojfbaaDoorZG25
import Derived.Test.YtejmjjgbbojfbaaDoorZOpened
/- AutoLeast: whole, fits. -/
namespace Go.Proofs.YtejmjjgbbojfbaaDoor
set_option linter.unusedVariables false
open Go.ChangeShapes Go.WideShapes Go.ChangeAt Go.RowKit

/-- The numbers of a table, its bools, as cells. -/
theorem TabAt.nxAt {w : World} {B : Nat} {A X : Option Addr} {ca cx : Nat} {T : Tab} (h : TabAt w B A X ca cx T) (hn : 0 < T.n) : ∃ b, X = some ⟨b, 0, none⟩ ∧ b < w.heap.size ∧ 256 * T.n ≤ cx ∧ ∀ j, j < 256 * T.n → w.cell? ⟨b, j, none⟩ = some (.int .i64 ((T.nx (j / 256) (j % 256) : Nat) : Int)) := by
  obtain ⟨b, rfl⟩ := h.nx.someAt (by omega)
  exact ⟨b, rfl, (h.nx.lt b rfl).2, (own_cap h.nx).1, fun j hj => h.nx.get (intsV_get _ _ _ hj)⟩
theorem TabAt.accAt {w : World} {B : Nat} {A X : Option Addr} {ca cx : Nat} {T : Tab} (h : TabAt w B A X ca cx T) (hn : 0 < T.n) : ∃ b, A = some ⟨b, 0, none⟩ ∧ b < w.heap.size ∧ T.n ≤ ca ∧ ∀ j, j < T.n → w.cell? ⟨b, j, none⟩ = some (.bool (T.acc j)) := by
  obtain ⟨b, rfl⟩ := h.acc.someAt hn
  exact ⟨b, rfl, (h.acc.lt b rfl).2, (own_cap h.acc).1, fun j hj => h.acc.get (by simp [hj])⟩
set_option maxRecDepth 100000 in
set_option maxHeartbeats 2000000 in
theorem whole_any (w : World) (B : Nat) (A X : Option Addr) (ca cx : Nat) (T : Tab) (h : TabAt w B A X ca cx T) (hn : 0 < T.n) (hn2 : T.n ≤ 1024) (hr : ∀ s c, s < T.n → c < 256 → T.nx s c < T.n) :
    Calls Tryd.prog 36 #[.agg #[.int .i64 0, .slice A T.n ca, .slice X (256 * T.n) cx]] w fun e w' => e = .returned (.bool true) ∧ Below w.heap.size w w' := by
  obtain ⟨xb, rfl, hxl, hxc, hx⟩ := h.nxAt hn
  obtain ⟨o, ho⟩ : ∃ o, o = Obj.cells #[.int .i64 0, .slice A T.n ca, .slice (some ⟨xb, 0, none⟩) (256 * T.n) cx] 54 := ⟨_, rfl⟩
  have hb0 : Below w.heap.size w (w.alloc o) := (Below.refl _ _).alloc (Nat.le_refl _) _
  have hblk := (heap_alloc_new w o).trans (congrArg some ho)
  have c0 : (w.alloc o).cell? ⟨w.heap.size, 0, none⟩ = some (.int .i64 0) := blk_cell hblk 0
  have c1 : (w.alloc o).cell? ⟨w.heap.size, 1, none⟩ = some (.slice A T.n ca) := blk_cell hblk 1
  have c2 : (w.alloc o).cell? ⟨w.heap.size, 2, none⟩ = some (.slice (some ⟨xb, 0, none⟩) (256 * T.n) cx) := blk_cell hblk 2
  have HX := Lib.hid (show ∀ j, j < 256 * T.n → (w.alloc o).cell? ⟨xb, j, none⟩ = some (.int .i64 ((T.nx (j / 256) (j % 256) : Nat) : Int)) from fun j hj => (hb0.cell (p := ⟨xb, j, none⟩) hxl).trans (hx j hj))
  have HR := Lib.hid hr
  have HB0 := Lib.hid hb0
  have HO := Lib.hid ho
  have n1 : ¬ ((T.n : Int) ≤ 0) := by omega
  have n2 : (((256 * T.n : Nat) : Int) != 256 * (T.n : Int)) = false := by simp
  have n3 : IntKind.i64.wrap (256 * (T.n : Int)) = 256 * (T.n : Int) := by rw [IntKind.wrap_i64]; omega
  clear h hx hr hblk hb0 ho
  go_enter Tryd.func36, Tryd.ntmps36
  go_upto_region 1 with fail
  rw [← HO.out]
  generalize w.alloc o = W at c0 c1 c2 HX HB0 ⊢
  generalize w.heap.size = z0 at c0 c1 c2 ⊢
  go_wp2
  go_loopw [29] (fun s29 wr => W = wr ∧ ∃ j : Nat, s29 = .int .i64 (j : Nat) ∧ j ≤ 256 * T.n) (fun s29 _ => 256 * T.n - (intOf s29).toNat)
  case atStart => exact ⟨rfl, 0, rfl, Nat.zero_le _⟩
  case round =>
    obtain ⟨rfl, j, rfl, hj⟩ := hrel
    by_cases hlt : j < 256 * T.n
    · have x1 := HX.out j hlt
      have hv := HR.out (j / 256) (j % 256) (by omega) (by omega)
      obtain ⟨v, hve⟩ : ∃ v, T.nx (j / 256) (j % 256) = v := ⟨_, rfl⟩
      rw [hve] at x1 hv
      clear hve
      have i1 : (j : Int) < ((256 * T.n : Nat) : Int) := by omega
      have i2 : ¬ ((v : Int) < 0) := by omega
      have i3 : decide (T.n ≤ v) = false := decide_eq_false (by omega)
      go_wp2
      go_roundw
      case rel => exact ⟨trivial, j + 1, by go_num, by omega⟩
      case measure => simp [intOf]; omega
    · obtain rfl : j = 256 * T.n := by omega
      go_wp2
      go_ret
      exact ⟨rfl, HB0.out⟩
end Go.Proofs.YtejmjjgbbojfbaaDoor

/- The law's sameTable, SameInts: of alike tables they are true. -/
namespace Go.Proofs.YtejmjjgbbojfbaaDoor
set_option linter.unusedVariables false
open Go.ChangeShapes Go.WideShapes Go.ChangeAt Go.RowKit

theorem rd_nats {w : World} {a : Option Addr} {n c : Nat} {l : List Nat} (h : Rd w (.slice a n c) (natsV l)) : n = l.length ∧ l.length ≤ c ∧ (0 < l.length → ∃ b o, a = some ⟨b, o, none⟩ ∧ ∀ i (hi : i < l.length), w.cell? ⟨b, o + i, none⟩ = some (.int .i64 ((l[i] : Nat) : Int))) := by
  obtain ⟨A, c', e, hc, hg⟩ := h
  injection e with e1 e2 e3
  subst e1 e2 e3
  rw [natsV_length] at hg hc
  refine ⟨natsV_length l, hc, fun h0 => ?_⟩
  obtain ⟨b, o, rfl, hc⟩ := hg h0
  exact ⟨b, o, rfl, fun i hi => hc i _ (natsV_get hi)⟩
set_option maxRecDepth 100000 in
theorem samei_eq (w : World) (a a' : Option Addr) (n n' c c' : Nat) (l : List Nat) (h : Rd w (.slice a n c) (natsV l)) (h' : Rd w (.slice a' n' c') (natsV l)) (hl : l.length ≤ 1000000000) :
    Calls Tryd.prog 41 #[.slice a n c, .slice a' n' c'] w fun e w' => e = .returned (.bool true) ∧ ∃ d, w' = w.drewN d := by
  obtain ⟨rfl, -, hg⟩ := rd_nats h
  obtain ⟨rfl, -, hg'⟩ := rd_nats h'
  have HG := Lib.hid hg
  have HG' := Lib.hid hg'
  clear h h' hg hg'
  have q1 : ((l.length : Int) != (l.length : Int)) = false := by simp
  go_enter Tryd.func41, Tryd.ntmps41
  go_wp2
  go_loopw [13] (fun s13 wr => ∃ i d : Nat, s13 = .int .i64 (i : Nat) ∧ i ≤ l.length ∧ wr = w.drewN d) (fun s13 _ => l.length - (intOf s13).toNat)
  case atStart => exact ⟨0, 0, rfl, Nat.zero_le _, rfl⟩
  case round =>
    obtain ⟨i, d, rfl, hi, rfl⟩ := hrel
    by_cases hlt : i < l.length
    · obtain ⟨b, o, rfl, hc⟩ := HG.out (by omega)
      obtain ⟨b', o', rfl, hc'⟩ := HG'.out (by omega)
      have x1 := hc i hlt
      have x2 := hc' i hlt
      obtain ⟨v, hv⟩ : ∃ v, l[i] = v := ⟨_, rfl⟩
      rw [hv] at x1 x2
      have t1 : ((v : Int) != (v : Int)) = false := by simp
      have i1 : (i : Int) < (l.length : Int) := by omega
      clear hc hc' hv
      go_upto_region 6 with fail
      go_quiet (fail)
      go_wp2
      go_roundw
      case rel => exact ⟨i + 1, _, by go_num, by omega, by first | rfl | exact World.drewN_drewN ..⟩
      case measure => simp [intOf]; omega
    · obtain rfl : i = l.length := by omega
      go_wp2
      go_ret
      exact ⟨rfl, _, rfl⟩
theorem intsV_nats (f : Nat → Nat) (n : Nat) : intsV f n = natsV ((List.range n).map f) := by simp [intsV, natsV]
/-- Two tables that are alike. -/
structure TabEq (T T2 : Tab) : Prop where
  n : T.n = T2.n
  acc : ∀ s, s < T.n → T.acc s = T2.acc s
  nx : ∀ s c, s < T.n → c < 256 → T.nx s c = T2.nx s c
theorem canon_eq {T T2 : Tab} {L : List Nat → Bool} (h : Canon T L) (h2 : Canon T2 L) : TabEq T T2 := by
  obtain ⟨h1, h2, h3⟩ := canon_one h h2
  exact ⟨h1, h2, h3⟩
set_option maxRecDepth 100000 in
set_option maxHeartbeats 2000000 in
theorem samet_any (w : World) (B B2 : Nat) (A X A2 X2 : Option Addr) (ca cx ca2 cx2 : Nat) (T T2 : Tab) (h : TabAt w B A X ca cx T) (h2 : TabAt w B2 A2 X2 ca2 cx2 T2) (he : TabEq T T2) (hn : 0 < T.n) (hn2 : T.n ≤ 2000) :
    Calls Tryd.prog 30 #[.agg #[.int .i64 0, .slice A T.n ca, .slice X (256 * T.n) cx], .agg #[.int .i64 0, .slice A2 T2.n ca2, .slice X2 (256 * T2.n) cx2]] w fun e w' => e = .returned (.bool true) ∧ Below w.heap.size w w' := by
  have h2' : TabAt w B2 A2 X2 ca2 cx2 T := by
    refine ⟨?_, ?_⟩
    · have h9 := h2.acc
      rw [← he.n] at h9
      exact own_to h9 (List.map_congr_left fun s hs => by rw [he.acc s (List.mem_range.1 hs)])
    · have h9 := h2.nx
      rw [← he.n] at h9
      exact own_to h9 (intsV_congr fun j hj => (he.nx _ _ (by omega) (by omega)).symm)
  rw [← he.n]
  clear h2 he
  obtain ⟨yb, rfl, hyl, hyc, hy⟩ := h.accAt hn
  obtain ⟨yb2, rfl, hyl2, hyc2, hy2⟩ := h2'.accAt hn
  have hx1 := h.nx.rd
  have hx2 := h2'.nx.rd
  rw [intsV_nats] at hx1 hx2
  obtain ⟨o1, ho1⟩ : ∃ o, o = Obj.cells #[.int .i64 0, .slice (some ⟨yb, 0, none⟩) T.n ca, .slice X (256 * T.n) cx] 54 := ⟨_, rfl⟩
  obtain ⟨o2, ho2⟩ : ∃ o, o = Obj.cells #[.int .i64 0, .slice (some ⟨yb2, 0, none⟩) T.n ca2, .slice X2 (256 * T.n) cx2] 54 := ⟨_, rfl⟩
  have hb1 : Below w.heap.size w (w.alloc o1) := (Below.refl _ _).alloc (Nat.le_refl _) _
  have hb2 : Below w.heap.size w ((w.alloc o1).alloc o2) := hb1.alloc hb1.size _
  have hz1 : (w.alloc o1).heap.size = w.heap.size + 1 := by simp
  have k1 := (heap_al (o2 := o2) (heap_alloc_new w o1)).trans (congrArg some ho1)
  have k2 := (heap_alloc_new (w.alloc o1) o2).trans (congrArg some ho2)
  rw [hz1] at k2
  have HY := Lib.hid (show ∀ j, j < T.n → ((w.alloc o1).alloc o2).cell? ⟨yb, j, none⟩ = some (.bool (T.acc j)) ∧ ((w.alloc o1).alloc o2).cell? ⟨yb2, j, none⟩ = some (.bool (T.acc j)) from fun j hj => ⟨(hb2.cell (p := ⟨yb, j, none⟩) hyl).trans (hy j hj), (hb2.cell (p := ⟨yb2, j, none⟩) hyl2).trans (hy2 j hj)⟩)
  have HX1 := Lib.hid (hx1.below hb2 (Nat.le_refl _))
  have HX2 := Lib.hid (hx2.below hb2 (Nat.le_refl _))
  have HB := Lib.hid hb2
  have HO1 := Lib.hid ho1
  have HO2 := Lib.hid ho2
  have c0 : ((w.alloc o1).alloc o2).cell? ⟨w.heap.size, 0, none⟩ = some (.int .i64 0) := blk_cell k1 0
  have c1 : ((w.alloc o1).alloc o2).cell? ⟨w.heap.size, 1, none⟩ = some (.slice (some ⟨yb, 0, none⟩) T.n ca) := blk_cell k1 1
  have c2 : ((w.alloc o1).alloc o2).cell? ⟨w.heap.size, 2, none⟩ = some (.slice X (256 * T.n) cx) := blk_cell k1 2
  have d0 : ((w.alloc o1).alloc o2).cell? ⟨w.heap.size + 1, 0, none⟩ = some (.int .i64 0) := blk_cell k2 0
  have d1 : ((w.alloc o1).alloc o2).cell? ⟨w.heap.size + 1, 1, none⟩ = some (.slice (some ⟨yb2, 0, none⟩) T.n ca2) := blk_cell k2 1
  have d2 : ((w.alloc o1).alloc o2).cell? ⟨w.heap.size + 1, 2, none⟩ = some (.slice X2 (256 * T.n) cx2) := blk_cell k2 2
  have t0 : ((T.n : Int) != (T.n : Int)) = false := by simp
  clear h h2' hx1 hx2 hy hy2 hb1 hb2 k1 k2 ho1 ho2 hz1
  go_enter Tryd.func30, Tryd.ntmps30
  go_upto_region 1 with fail
  rw [← HO1.out, ← HO2.out]
  generalize (w.alloc o1).alloc o2 = W at c0 c1 c2 d0 d1 d2 HY HX1 HX2 HB ⊢
  generalize w.heap.size + 1 = z2 at d0 d1 d2 ⊢
  obtain ⟨z1, hz1⟩ : ∃ z, z = w.heap.size := ⟨_, rfl⟩
  rw [← hz1] at c0 c1 c2 ⊢
  have HZ1 := Lib.hid hz1
  clear hz1
  go_upto_region 4 with fail
  go_loopw [23] (fun s23 wr => ∃ i d : Nat, s23 = .int .i64 (i : Nat) ∧ i ≤ T.n ∧ wr = W.drewN d) (fun s23 _ => T.n - (intOf s23).toNat)
  case atStart => exact ⟨0, 0, rfl, Nat.zero_le _, rfl⟩
  case round =>
    obtain ⟨i, d, rfl, hi, rfl⟩ := hrel
    by_cases hlt : i < T.n
    · obtain ⟨x1, x2⟩ := HY.out i hlt
      obtain ⟨v, hv⟩ : ∃ v, T.acc i = v := ⟨_, rfl⟩
      rw [hv] at x1 x2
      have i1 : (i : Int) < (T.n : Int) := by omega
      clear hv
      cases v with
      | true =>
        go_upto_region 6 with fail
        go_quiet (fail)
        go_wp2
        go_roundw
        case rel => exact ⟨i + 1, _, by go_num, by omega, by first | rfl | exact World.drewN_drewN ..⟩
        case measure => simp [intOf]; omega
      | false =>
        go_upto_region 6 with fail
        go_quiet (fail)
        go_wp2
        go_roundw
        case rel => exact ⟨i + 1, _, by go_num, by omega, by first | rfl | exact World.drewN_drewN ..⟩
        case measure => simp [intOf]; omega
    · obtain rfl : i = T.n := by omega
      have C := samei_eq (W.drewN d) X X2 (256 * T.n) (256 * T.n) cx cx2 _ HX1.out HX2.out (by simp; omega)
      go_wp2_with (with_reducible refine C.mono ?_; rintro e w8 ⟨rfl, d8, rfl⟩)
      go_ret
      exact ⟨rfl, by first | exact below_drewN HB.out _ | exact below_drewN (below_drewN HB.out d) d8⟩
end Go.Proofs.YtejmjjgbbojfbaaDoor

/- The walk of the law AutoTerms. -/
namespace Go.Proofs.YtejmjjgbbojfbaaDoor
set_option linter.unusedVariables false
open Go.ChangeShapes Go.WideShapes Go.ChangeAt Go.RowKit

theorem Sent.derr {w : World} {EA : Nat → Addr} (h : Sent w EA) : DErr w EA := ⟨⟨h.c1, h.c2, h.c3, h.c4⟩, h.c10, h.c5⟩
theorem stopL_no (H : List Nat) : stopL H (-1) = H := by unfold stopL; rw [if_neg (by omega)]
theorem stopL_at (H : List Nat) (k : Nat) (h1 : 1 ≤ k) (h2 : k ≤ H.length) : stopL H (k : Int) = H.take k := by unfold stopL; rw [if_pos (by omega)]; rfl
theorem rd_takeN {w : World} {A : Option Addr} {n c : Nat} {l : List Nat} (h : Rd w (.slice A n c) (natsV l)) {k : Nat} (hk : k ≤ l.length) : Rd w (.slice A k c) (natsV (l.take k)) := by
  obtain ⟨A', c', hv, hc, hg⟩ := h
  injection hv with e1 e2 e3
  subst e1 e2 e3
  have hl : (natsV (l.take k)).length = k := by rw [natsV_length, List.length_take]; omega
  have hl2 := natsV_length l
  refine ⟨A, c, by rw [hl], by omega, fun h0 => ?_⟩
  obtain ⟨b, o, rfl, ha⟩ := hg (by omega)
  refine ⟨b, o, rfl, fun j x hx => ha j x ?_⟩
  have hj : j < k := by
    have := (List.getElem?_eq_some_iff.1 hx).1
    omega
  unfold natsV at hx ⊢
  rw [List.map_take, List.getElem?_take, if_pos hj] at hx
  exact hx
set_option maxRecDepth 100000 in
set_option maxHeartbeats 8000000 in
theorem autoterms_walk (w : World) (o : OfV) (a : Option Addr) (n c : Nat) (ls : List ByteArray) (hr : Rd w (.slice a n c) (strsV ls)) (hn : ls.length ≤ 1000000000) (h : ByteArray) (hh : h.size ≤ 1000000000) (stop : Int)
    (hos : o.s.size ≤ 1048576) (hol : o.ls.size ≤ 1048576) (hoh : o.hs.size ≤ 1048576) (EA : Nat → Addr) (hE : Sent w EA) :
    Calls Tryd.prog 11 #[.agg o.cells.toArray, .slice a n c, .string h, .int .i64 stop] w fun e w' => e = .returned (.bool true) ∧ Below w.heap.size w w' := by
  obtain ⟨ob, hob⟩ : ∃ ob, ob = Obj.cells o.cells.toArray 37 := ⟨_, rfl⟩
  have hb0 : Below w.heap.size w (w.alloc ob) := (Below.refl _ _).alloc (Nat.le_refl _) _
  have hz0 : (w.alloc ob).heap.size = w.heap.size + 1 := by simp
  have hcx : Cells9 (w.alloc ob) w.heap.size o := Cells9.of ((heap_alloc_new w ob).trans (congrArg some hob))
  have C0 := lives_any (w.alloc ob) _ (hE.below hb0).c14
  obtain rfl := (rd_strs hr).1
  have HR := Lib.hid (show ∀ X, Below w.heap.size w X → Rd X (.slice a ls.length c) (strsV ls) from fun X e => hr.below e (Nat.le_refl _))
  have HE := Lib.hid (show ∀ X, Below w.heap.size w X → Sent X EA from fun X e => hE.below e)
  have HB0 := Lib.hid hb0
  have HZ0 := Lib.hid hz0
  have HCX := Lib.hid hcx
  have HOB := Lib.hid hob
  clear hr hE hb0 hz0 hcx hob
  go_enter Tryd.func11, Tryd.ntmps11
  go_upto_region 1 with fail
  rw [← HOB.out]
  generalize w.alloc ob = W at C0 HB0 HZ0 HCX ⊢
  obtain ⟨z, hz⟩ : ∃ z, z = w.heap.size := ⟨_, rfl⟩
  have HCX : RowKit.Hid (Cells9 W z o) := by rw [hz]; exact HCX
  have hz1 : z < W.heap.size := by rw [hz, HZ0.out]; omega
  rw [← hz]
  have HZ := Lib.hid hz
  clear hz HZ0
  by_cases hbig : 2000 < ls.length
  · have i1 : (2000 : Int) < (ls.length : Int) := by omega
    clear hbig
    go_wp2_with fail
    refine C0.mono ?_
    rintro e w1 ⟨rfl, hb1⟩
    have HB1 := Lib.hid (HB0.out.trans (hb1.mono HB0.out.size))
    clear C0 hb1
    go_wp2
    go_ret
    exact ⟨rfl, HB1.out⟩
  have i1 : ¬ (2000 : Int) < (ls.length : Int) := by omega
  have HSM := Lib.hid hbig
  clear hbig
  go_upto_region 2 with (with_reducible refine C0.mono ?_; rintro e w1 ⟨rfl, hb1⟩)
  have hcx1 := HCX.out.below hb1 hz1
  have hB1 := HB0.out.trans (hb1.mono HB0.out.size)
  have hz2 := Nat.lt_of_lt_of_le hz1 hb1.size
  have C1 := made_any w1 o (by omega) EA (HE.out _ hB1)
  have HCX1 := Lib.hid hcx1
  obtain ⟨d0, d1, d2, d3, d4, d5, d6, d7, d8⟩ := hcx1
  have HB1 := Lib.hid hB1
  clear C0 hb1 hB1 hz1
  go_wp2_with fail
  refine C1.mono ?_
  rintro e w2 ⟨g1, g2⟩
  clear C1 d0 d1 d2 d3 d4 d5 d6 d7 d8 i1
  by_cases hbad : o.bad = 0
  · obtain ⟨p, rfl, hp, ha, hb2⟩ := g1 hbad
    have hM := at_mach ha (by omega) (by omega) (by omega)
    have hB2 := HB1.out.trans (hb2.mono HB1.out.size)
    have hcx2 := HCX1.out.below hb2 hz2
    have hz3 : z < w2.heap.size := Nat.lt_of_lt_of_le hz2 hb2.size
    have HM := Lib.hid hM
    have HB2 := Lib.hid hB2
    have HCX2 := Lib.hid hcx2
    obtain ⟨d0, d1, d2, d3, d4, d5, d6, d7, d8⟩ := hcx2
    have HBAD := Lib.hid hbad
    clear g1 g2 hbad ha hM hb2 hB2 d0 d2 d3 d4 d5 d6 d7 d8 hz2 HCX HCX1 HB0 HB1
    by_cases hlong : 300 < o.s.size
    · have j1 : (300 : Int) < (o.s.size : Int) := by omega
      clear hlong
      go_wp2
      go_ret
      exact ⟨rfl, HB2.out⟩
    have j1 : ¬ (300 : Int) < (o.s.size : Int) := by omega
    have C2 := opened_any w2 a ls.length c ls (HR.out _ HB2.out) (by have := HSM.out; omega) EA (fun X e => (HE.out _ (HB2.out.trans (e.mono HB2.out.size))).derr)
    clear hlong
    go_wp2_with fail
    refine C2.mono ?_
    rintro e w3 ⟨base, q, v, a3, c3, rows, hbase, rfl, hD, hrd, hris, hlens, hrn, hb3⟩
    clear C2 d1 j1
    have hB3 := HB2.out.trans (hb3.mono HB2.out.size)
    have hcx3 := HCX2.out.below hb3 hz3
    have hM3 := HM.out.below hb3
    have HB3 := Lib.hid hB3
    have HCX3 := Lib.hid hcx3
    have hrn2 : rows.length ≤ 2000 := by have := HSM.out; omega
    obtain ⟨es, hes⟩ : ∃ es, entsN rows rows.length = es := ⟨_, rfl⟩
    have hel : es.length = rows.length := by rw [← hes, entsN_length]
    have hks : ∀ (i : Nat) (hi : i < es.length), es[i].k.size ≤ 65 := fun i hi => by
      subst hes
      rw [entsN_get]
      unfold mkE
      rw [entsN_length] at hi
      have h9 := (hlens _ (List.getElem_mem hi)).2
      simpa [List.getD, hi] using h9
    have hri : rising none es := by rw [← hes]; exact ents_rising hris
    have hth : numsL (termsP o.mach h.data.toList es es.length) = hitsP o.mach h.data.toList rows rows.length := by
      rw [← hes, entsN_length]
      exact terms_hits _ _ _
    rw [hes] at hD
    obtain ⟨d0, d1, d2, d3, d4, d5, d6, d7, d8⟩ := hcx3
    have HD := Lib.hid hD
    have HRD := Lib.hid hrd
    have HM3 := Lib.hid hM3
    have HRI := Lib.hid hri
    have HKS := Lib.hid hks
    have HTH := Lib.hid hth
    have HEL := Lib.hid hel
    have HLN := Lib.hid hlens
    have C3 := told_any w3 o
    obtain ⟨q0, q1, q2, q3, q4, q5, q6, q7, q8, hrc⟩ : ∃ q0 q1 q2 q3 q4 q5 q6 q7 q8, rCellsOf o = [(.int .i64 q0), (.string q1), (.int .i64 q2), (.bool q3), (.bool q4), (.string q5), (.bool q6), (.bool q7), (.string q8)] := by
      unfold rCellsOf
      split
      · exact ⟨_, _, _, _, _, _, _, _, _, rfl⟩
      · exact ⟨_, _, _, _, _, _, _, _, _, rfl⟩
    have KA := fun W (x : ByteArray) (hx : x.size ≤ 1048576) => racc_of W o HBAD.out x hos hol hoh hx
    rw [hrc] at C3 KA
    have HKA := Lib.hid KA
    clear hD hrd hM3 hri hks hth hel hlens hes hB3 hb3 hris hrc KA HM HCX2 HB2
    go_wp2_with fail
    refine C3.mono ?_
    rintro e w4 ⟨rfl, hb4⟩
    clear C3 d0 d1 d2 d3 d4 d5 d6 d7 d8
    have hB4 := HB3.out.trans (hb4.mono HB3.out.size)
    have hrd4 := HRD.out.below hb4 (Nat.le_refl _)
    have C4 := rterms_any w4 q0 q2 q1 q5 q8 q3 q4 q6 q7 o.mach HKA.out a3 c3 rows hrd4 (fun x hx => (HLN.out x hx).2) (by omega) h hh
    have HB4 := Lib.hid hB4
    have HB34 := Lib.hid hb4
    clear hB4 hrd4 hb4
    obtain ⟨H, hH⟩ : ∃ H, hitsP o.mach h.data.toList rows rows.length = H := ⟨_, rfl⟩
    have hHl : H.length ≤ 2000 := by rw [← hH]; exact Nat.le_trans (hitsP_len _ _ _ _) hrn2
    rw [hH] at C4
    have HTH2 := Lib.hid (HTH.out.trans hH)
    clear hH HTH
    go_wp2_with fail
    refine C4.mono ?_
    rintro e w5 ⟨A5, C5, rfl, ho5, hb5⟩
    have hB5 := HB4.out.trans (hb5.mono HB4.out.size)
    have hb35 := HB34.out.trans (hb5.mono HB34.out.size)
    have hc5 := (own_cap ho5).1
    have C6 := walked_any w5 base q v es (HD.out.below hb35 (Nat.le_refl _)) HRI.out (by have := HEL.out; omega) HKS.out p o.mach (HM3.out.below hb35) h (-1)
    unfold WalkedPost at C6
    rw [stopL_no, HTH2.out] at C6
    have HO5 := Lib.hid ho5
    have HB5 := Lib.hid hB5
    have HB35 := Lib.hid hb35
    clear C4 ho5 hB5 hb35 hb5 HB4 HB34 HB3 HCX3
    go_wp2_with fail
    refine C6.mono ?_
    rintro e w6 ⟨A6, D6, rfl, ho6, hb6⟩
    have hB6 := HB5.out.trans (hb6.mono HB5.out.size)
    have hb36 := HB35.out.trans (hb6.mono HB35.out.size)
    have C7 := walked_any w6 base q v es (HD.out.below hb36 (Nat.le_refl _)) HRI.out (by have := HEL.out; omega) HKS.out p o.mach (HM3.out.below hb36) h (-1)
    unfold WalkedPost at C7
    rw [stopL_no, HTH2.out] at C7
    have HO56 := Lib.hid (HO5.out.below hb6 (Nat.le_refl _))
    have HO6 := Lib.hid ho6
    have HB6 := Lib.hid hB6
    have HB36 := Lib.hid hb36
    clear C6 ho6 hB6 hb36 hb6 HO5 HB5 HB35
    go_wp2_with fail
    refine C7.mono ?_
    rintro e w7 ⟨A7, D7, rfl, ho7, hb7⟩
    have hB7 := HB6.out.trans (hb7.mono HB6.out.size)
    have hb37 := HB36.out.trans (hb7.mono HB36.out.size)
    have ho57 := HO56.out.below hb7 (Nat.le_refl _)
    have ho67 := HO6.out.below hb7 (Nat.le_refl _)
    have C8 := samei_eq w7 A6 A5 H.length H.length D6 C5 H ho67.rd ho57.rd (by omega)
    have HB7 := Lib.hid hB7
    have HB37 := Lib.hid hb37
    have HO57 := Lib.hid ho57
    have HO7 := Lib.hid ho7
    clear C7 ho7 hB7 hb37 hb7 ho57 ho67 HO56 HO6 HB6 HB36
    go_wp2_with fail
    refine C8.mono ?_
    rintro e w8 ⟨rfl, k8, rfl⟩
    clear C8
    have C9 := samei_eq (w7.drewN k8) A7 A5 H.length H.length D7 C5 H HO7.out.rd HO57.out.rd (by omega)
    go_wp2_with fail
    refine C9.mono ?_
    rintro e w9 ⟨rfl, k9, rfl⟩
    clear C9
    have hb79 : Below w7.heap.size w7 ((w7.drewN k8).drewN k9) := below_drewN (below_drewN (Below.refl _ _) k8) k9
    have HB9 := Lib.hid (HB7.out.trans (hb79.mono HB7.out.size))
    have HB39 := Lib.hid (HB37.out.trans (hb79.mono HB37.out.size))
    have HO59 := Lib.hid (HO57.out.below hb79 (Nat.le_refl _))
    clear hb79 HB7 HB37 HO57 HO7
    generalize (w7.drewN k8).drewN k9 = w9 at HB9 HB39 HO59 ⊢
    by_cases hs1 : stop < 1
    · have t1 : decide (stop < 1) = true := decide_eq_true hs1
      clear hs1
      go_wp2
      go_ret
      exact ⟨rfl, HB9.out⟩
    · have t1 : decide (stop < 1) = false := decide_eq_false hs1
      by_cases hs2 : (H.length : Int) < stop
      · have t2 : decide ((H.length : Int) < stop) = true := decide_eq_true hs2
        clear hs1 hs2
        go_wp2
        go_ret
        exact ⟨rfl, HB9.out⟩
      · obtain ⟨k, rfl⟩ : ∃ k : Nat, stop = (k : Int) := ⟨stop.toNat, by omega⟩
        have hk1 : 1 ≤ k := by omega
        have hk2 : k ≤ H.length := by omega
        have t2 : ¬ (H.length : Int) < (k : Int) := hs2
        have C10 := walked_any w9 base q v es (HD.out.below HB39.out (Nat.le_refl _)) HRI.out (by have := HEL.out; omega) HKS.out p o.mach (HM3.out.below HB39.out) h (k : Int)
        unfold WalkedPost at C10
        rw [HTH2.out, stopL_at H k hk1 hk2, show (H.take k).length = k by rw [List.length_take]; omega] at C10
        have t3 : (k : Int) ≤ (C5 : Int) := by omega
        have HK2 := Lib.hid hk2
        clear hs1 hs2 hk2
        go_wp2_with fail
        refine C10.mono ?_
        rintro e w10 ⟨A10, D10, rfl, ho10, hb10⟩
        have HB10 := Lib.hid (HB9.out.trans (hb10.mono HB9.out.size))
        have ho510 := HO59.out.below hb10 (Nat.le_refl _)
        have C11 := samei_eq w10 A10 A5 k k D10 C5 (H.take k) ho10.rd (rd_takeN ho510.rd HK2.out) (by rw [List.length_take]; omega)
        clear C10 ho10 hb10 ho510 t1 t2
        go_wp2_with fail
        refine C11.mono ?_
        rintro e w11 ⟨rfl, k11, rfl⟩
        clear C11
        go_wp2
        go_ret
        exact ⟨rfl, below_drewN HB10.out k11⟩
  · obtain ⟨rfl, hb2⟩ := g2 hbad
    have HB2 := Lib.hid (HB1.out.trans (hb2.mono HB1.out.size))
    clear g1 g2 hbad hb2
    go_wp2
    go_ret
    exact ⟨rfl, HB2.out⟩
end Go.Proofs.YtejmjjgbbojfbaaDoor
