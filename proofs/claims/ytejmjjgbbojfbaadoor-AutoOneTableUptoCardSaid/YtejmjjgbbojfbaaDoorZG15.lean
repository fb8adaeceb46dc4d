/- Merged: Dead, TVar. -/
import Derived.Test.YtejmjjgbbojfbaaDoorZPieces
import Derived.Test.YtejmjjgbbojfbaaDoorZG10
import Derived.Test.YtejmjjgbbojfbaaDoorZExact
import Derived.Test.YtejmjjgbbojfbaaDoorZG9
import Derived.Test.YtejmjjgbbojfbaaDoorZSpanA
import Derived.Test.YtejmjjgbbojfbaaDoorZG11
import Derived.Test.YtejmjjgbbojfbaaDoorZFewP
/- The walk of the law AutoDead. -/
namespace Go.Proofs.YtejmjjgbbojfbaaDoor
set_option linter.unusedVariables false
open Go.ChangeShapes Go.WideShapes Go.ChangeAt Go.RowKit

/-- Whatever was made is a machine. -/
theorem auto_at {w : World} {p : Nat} {o : OfV} (h : AutoAt w p o) (hs : o.s.size ≤ 1000000000) (hl : o.ls.size ≤ 1000000000) (hh : o.hs.size ≤ 1000000000) : ∃ M, IsAuto w p M := by
  obtain ⟨h0, h3, h4, h2, h5, h1⟩ := h
  by_cases k3 : o.k = 3
  · obtain ⟨es, _, ha⟩ := h3 k3; exact ⟨_, ha⟩
  by_cases k4 : o.k = 4
  · exact ⟨_, h4 k4⟩
  by_cases k2 : o.k = 2
  · exact ⟨_, prefixM_auto hs (h2 k2)⟩
  by_cases k5 : o.k = 5
  · exact ⟨_, spanM_auto hl hh (h5 k5)⟩
  exact ⟨_, exactM_auto hs (h1 k2 k3 k4 k5)⟩
theorem acc_alive {M : Mach} {s : List UInt8} (h : aliveM M s = false) : accM M s = false := by
  unfold accM; unfold aliveM at h; rw [h]; rfl
theorem alive_app {M : Mach} {s t : List UInt8} (h : aliveM M s = false) : aliveM M (s ++ t) = false := by
  unfold aliveM at h ⊢
  have h1 : runM M s = ⟨#[]⟩ := by simpa using h
  rw [runM_dead M s t h1]; rfl
set_option maxRecDepth 100000 in
set_option maxHeartbeats 2000000 in
theorem dead_walk (w : World) (o : OfV) (s : ByteArray) (a : Option Addr) (n c : Nat) (ls : List ByteArray) (hr : Rd w (.slice a n c) (strsV ls))
    (hn : ls.length ≤ 1000000000) (hz : ∀ b ∈ ls, b.size ≤ 1000000000) (hos : o.s.size ≤ 1000000000) (hol : o.ls.size ≤ 1000000000) (hoh : o.hs.size ≤ 1000000000) (hss : s.size ≤ 1000000000) (EA : Nat → Addr) (hE : Sent w EA) :
    Calls Tryd.prog 5 #[.agg o.cells.toArray, .string s, .slice a n c] w fun e w' => e = .returned (.bool true) ∧ Below w.heap.size w w' := by
  obtain ⟨ob, hob⟩ : ∃ ob, ob = Obj.cells o.cells.toArray 37 := ⟨_, rfl⟩
  have hb0 : Below w.heap.size w (w.alloc ob) := (Below.refl _ _).alloc (Nat.le_refl _) _
  have hz0 : (w.alloc ob).heap.size = w.heap.size + 1 := by simp
  have hcx : Cells9 (w.alloc ob) w.heap.size o := Cells9.of ((heap_alloc_new w ob).trans (congrArg some hob))
  have C0 := lives_any (w.alloc ob) _ (hE.below hb0).c14
  obtain rfl := (rd_strs hr).1
  have HR := Lib.hid hr
  have HZ := Lib.hid hz
  have HE := Lib.hid hE
  have HB0 := Lib.hid hb0
  have HZ0 := Lib.hid hz0
  have HCX := Lib.hid hcx
  have HOB := Lib.hid hob
  rw [hob] at C0
  clear hr hz hE hb0 hz0 hcx hob
  go_enter Tryd.func5, Tryd.ntmps5
  go_wp2_with fail
  refine C0.mono ?_
  rintro e w1 ⟨rfl, hb1⟩
  rw [← HOB.out] at hb1
  have hcx1 := HCX.out.below hb1 (by rw [HZ0.out]; omega)
  have hB1 := HB0.out.trans (hb1.mono (by rw [HZ0.out]; omega))
  have hz1 := hb1.size
  rw [HZ0.out] at hz1
  have C1 := made_any w1 o hos EA (HE.out.below hB1)
  obtain ⟨d0, d1, d2, d3, d4, d5, d6, d7, d8⟩ := hcx1
  have HB1 := Lib.hid hB1
  clear C0 hb1 hB1
  by_cases h1 : 2000 < o.s.size
  · go_wp2
    go_ret
    exact ⟨rfl, HB1.out⟩
  by_cases h2 : 2000 < s.size
  · go_wp2
    go_ret
    exact ⟨rfl, HB1.out⟩
  go_wp2_with fail
  refine C1.mono ?_
  rintro e w2 ⟨g1, g2⟩
  clear C1 d0 d1 d2 d3 d4 d5 d6 d7 d8
  by_cases hbad : o.bad = 0
  · obtain ⟨p, rfl, hp, ha, hb2⟩ := g1 hbad
    obtain ⟨M, hM⟩ := auto_at ha hos hol hoh
    have hB2 := HB1.out.trans (hb2.mono HB1.out.size)
    have C2 := alive_any w2 p M hM s (by omega)
    have HM := Lib.hid hM
    have HB2 := Lib.hid hB2
    clear g1 g2 hbad ha hM hb2 hB2
    cases hal : aliveM M s.data.toList with
    | true =>
      rw [hal] at C2
      go_wp2_with fail
      refine C2.mono ?_
      rintro e w3 ⟨rfl, hb3⟩
      have hM := HM.out.below hb3
      have hB3 := HB2.out.trans (hb3.mono HB2.out.size)
      have C3 := accepts_any w3 p M hM s (by omega)
      have HB3 := Lib.hid hB3
      clear C2 hb3 hM hB3 hal
      obtain ⟨r, hre⟩ : ∃ r, accM M s.data.toList = r := ⟨_, rfl⟩
      rw [hre] at C3
      clear hre
      go_wp2_with fail
      refine C3.mono ?_
      rintro e w4 ⟨rfl, hb4⟩
      have HB4 := Lib.hid (HB3.out.trans (hb4.mono HB3.out.size))
      clear C3 hb4
      cases r
      all_goals
        go_wp2
        go_loopw [51] (fun s51 wr => ∃ (i : Nat), s51 = .int .i64 i ∧ i ≤ ls.length ∧ Below w.heap.size w wr) (fun s51 _ => ls.length - (intOf s51).toNat)
        case atStart => exact ⟨0, rfl, Nat.zero_le _, HB4.out⟩
        case round =>
          clear HB4 HB3 HB2 HB1
          obtain ⟨i, rfl, hi, hb⟩ := hrel
          by_cases hlt : i < ls.length
          · obtain ⟨b, q, rfl, hc⟩ := (rd_strs (HR.out.below hb (Nat.le_refl _))).2 i hlt
            have HB := Lib.hid hb
            clear hb
            obtain ⟨l, hl⟩ : ∃ l, ls[i] = l := ⟨_, rfl⟩
            rw [hl] at hc
            clear hl
            go_wp2
            go_roundw
            case rel => exact ⟨i + 1, by go_num, by omega, HB.out⟩
            case measure => simp [intOf]; omega
          · obtain rfl : i = ls.length := by omega
            have HB := Lib.hid hb
            clear hb
            go_wp2
            go_ret
            exact ⟨rfl, HB.out⟩
    | false =>
      rw [hal] at C2
      have hac := acc_alive hal
      go_wp2_with fail
      refine C2.mono ?_
      rintro e w3 ⟨rfl, hb3⟩
      have hM := HM.out.below hb3
      have hB3 := HB2.out.trans (hb3.mono HB2.out.size)
      have C3 := accepts_any w3 p M hM s (by omega)
      rw [hac] at C3
      have HM3 := Lib.hid hM
      have HB3 := Lib.hid hB3
      have HAL := Lib.hid hal
      clear C2 hb3 hM hB3 hal hac
      go_wp2_with fail
      refine C3.mono ?_
      rintro e w4 ⟨rfl, hb4⟩
      have HM4 := Lib.hid (HM3.out.below hb4)
      have HB4 := Lib.hid (HB3.out.trans (hb4.mono HB3.out.size))
      clear C3 hb4
      go_wp2
      go_loopw [51] (fun s51 wr => ∃ (i : Nat), s51 = .int .i64 i ∧ i ≤ ls.length ∧ Below w.heap.size w wr ∧ IsAuto wr p M) (fun s51 _ => ls.length - (intOf s51).toNat)
      case atStart => exact ⟨0, rfl, Nat.zero_le _, HB4.out, HM4.out⟩
      case round =>
        clear HB4 HB3 HB2 HB1 HM4 HM3 HM
        obtain ⟨i, rfl, hi, hb, hm⟩ := hrel
        by_cases hlt : i < ls.length
        · obtain ⟨b, q, rfl, hc⟩ := (rd_strs (HR.out.below hb (Nat.le_refl _))).2 i hlt
          have hlz := HZ.out ls[i] (List.getElem_mem hlt)
          obtain ⟨l, hl⟩ : ∃ l, ls[i] = l := ⟨_, rfl⟩
          rw [hl] at hc hlz
          clear hl
          by_cases h20 : l.size ≤ 2000
          · have t1 : decide ((l.size : Int) ≤ 2000) = true := decide_eq_true (by omega)
            have hsum : s.size + l.size ≤ 9223372036854775807 := by omega
            have hal2 : aliveM M (s ++ l).data.toList = false := by rw [show (s ++ l).data.toList = s.data.toList ++ l.data.toList by simp]; exact alive_app HAL.out
            have hz2 : (s ++ l).size ≤ 1000000000000 := by rw [ByteArray.size_append]; omega
            have C4 := accepts_any wr p M hm (s ++ l) hz2
            rw [acc_alive hal2] at C4
            have HM := Lib.hid hm
            have HB := Lib.hid hb
            have HAL2 := Lib.hid hal2
            have HZ2 := Lib.hid hz2
            clear hb hm hal2 hz2
            go_wp2_with fail
            refine C4.mono ?_
            rintro e w5 ⟨rfl, hb5⟩
            have hM5 := HM.out.below hb5
            have C5 := alive_any w5 p M hM5 (s ++ l) HZ2.out
            rw [HAL2.out] at C5
            have HM5 := Lib.hid hM5
            have HB5 := Lib.hid (HB.out.trans (hb5.mono HB.out.size))
            clear C4 hb5 hM5
            go_wp2_with fail
            refine C5.mono ?_
            rintro e w6 ⟨rfl, hb6⟩
            have HM6 := Lib.hid (HM5.out.below hb6)
            have HB6 := Lib.hid (HB5.out.trans (hb6.mono HB5.out.size))
            clear C5 hb6
            go_wp2
            go_roundw
            case rel => exact ⟨i + 1, by go_num, by omega, HB6.out, HM6.out⟩
            case measure => simp [intOf]; omega
          · have t1 : decide ((l.size : Int) ≤ 2000) = false := decide_eq_false (by omega)
            have HM := Lib.hid hm
            have HB := Lib.hid hb
            clear hb hm
            go_wp2
            go_roundw
            case rel => exact ⟨i + 1, by go_num, by omega, HB.out, HM.out⟩
            case measure => simp [intOf]; omega
        · obtain rfl : i = ls.length := by omega
          have HB := Lib.hid hb
          clear hb hm
          go_wp2
          go_ret
          exact ⟨rfl, HB.out⟩
  · obtain ⟨rfl, hb2⟩ := g2 hbad
    have HB2 := Lib.hid (HB1.out.trans (hb2.mono HB1.out.size))
    clear g1 g2 hbad hb2
    go_wp2
    go_ret
    exact ⟨rfl, HB2.out⟩
end Go.Proofs.YtejmjjgbbojfbaaDoor

/- AutoOneTable: machines made; tables in variables. -/
namespace Go.Proofs.YtejmjjgbbojfbaaDoor
set_option linter.unusedVariables false
open Go.ChangeShapes Go.WideShapes Go.ChangeAt Go.RowKit

/-- A machine made. -/
def MkM (w : World) (M : Mach) (e : Ending) (w' : World) : Prop := ∃ p, e = .returned (.pointer (some ⟨p, 0, none⟩)) ∧ IsAuto w' p M ∧ Below w.heap.size w w'
theorem exact_m (w : World) (s : ByteArray) (hs : s.size ≤ 1000000000) : Calls Tryd.prog 28 #[.string s] w (MkM w (exactM s.data.toList)) :=
  (exact_any w s).mono fun e w' ⟨he, hw⟩ => by
    subst hw
    exact ⟨_, he, exactM_auto hs (blk_cell (heap_alloc_new w _) 0), (Below.refl _ _).alloc (Nat.le_refl _) _⟩
theorem prefix_m (w : World) (s : ByteArray) (hs : s.size ≤ 1000000000) : Calls Tryd.prog 31 #[.string s] w (MkM w (prefixM s.data.toList)) :=
  (prefix_any w s).mono fun e w' ⟨he, hw⟩ => by
    subst hw
    exact ⟨_, he, prefixM_auto hs (blk_cell (heap_alloc_new w _) 0), (Below.refl _ _).alloc (Nat.le_refl _) _⟩
theorem span_m (w : World) (a b : Bool) (s : ByteArray) (c d : Bool) (t : ByteArray) (hs : s.size ≤ 1000000000) (ht : t.size ≤ 1000000000) : Calls Tryd.prog 29 #[.agg #[.bool a, .bool b, .string s], .agg #[.bool c, .bool d, .string t]] w (MkM w (spanM a b s c d t)) :=
  (span_any w a b s c d t).mono fun e w' ⟨he, hw⟩ => by
    subst hw
    have hz : ((w.alloc (.cells #[.bool a, .bool b, .string s] 35)).alloc (.cells #[.bool c, .bool d, .string t] 35)).heap.size = w.heap.size + 2 := by simp
    have h1 := heap_alloc_new ((w.alloc (.cells #[.bool a, .bool b, .string s] 35)).alloc (.cells #[.bool c, .bool d, .string t] 35)) (.cells #[.iface 100 (.agg #[.bool a, .bool b, .string s, .bool c, .bool d, .string t])] 83)
    rw [hz] at h1
    exact ⟨_, he, spanM_auto hs ht (blk_cell h1 0), (((Below.refl _ w).alloc (Nat.le_refl _) _).alloc (by simp) _).alloc (by simp; omega) _⟩
/-- A table in a variable of the call's own. -/
structure TVar (w Y : World) (b : Nat) (A X : Option Addr) (ca cx : Nat) (T : Tab) (L : List Nat → Bool) : Prop where
  blk : Y.heap[b]? = some (.cells #[.int .i64 0, .slice A T.n ca, .slice X (256 * T.n) cx] 54 (0, 0))
  tab : TabAt Y w.heap.size A X ca cx T
  can : Canon T L
  pos : 0 < T.n
  le : T.n ≤ 1024
  hb : w.heap.size ≤ b
section
variable {w Y Y2 : World} {b b2 : Nat} {A X : Option Addr} {ca cx : Nat} {T : Tab} {L : List Nat → Bool}
theorem TVar.below (h : TVar w Y b A X ca cx T L) (e : Below Y.heap.size Y Y2) : TVar w Y2 b A X ca cx T L := ⟨(e.block b (lt_of_heap h.blk)).trans h.blk, h.tab.below e (Nat.le_refl _), h.can, h.pos, h.le, h.hb⟩
theorem TVar.alloc (h : TVar w Y b A X ca cx T L) (o : Obj) : TVar w (Y.alloc o) b A X ca cx T L := h.below ((Below.refl _ _).alloc (Nat.le_refl _) o)
theorem TVar.set (h : TVar w Y b A X ca cx T L) {cs : Array Value} (h2 : Y.heap[b2]? = some (.cells cs 54 (0, 0))) (hne : b ≠ b2) (i : Nat) (u : Value) : TVar w (Y.setCell ⟨b2, i, none⟩ u) b A X ca cx T L :=
  ⟨(Below.heap_setCell Y ⟨b2, i, none⟩ u b hne).trans h.blk, ⟨h.tab.acc.setOther (p := ⟨b2, i, none⟩) (h.tab.acc.ne_type h2 (by decide)) u, h.tab.nx.setOther (p := ⟨b2, i, none⟩) (h.tab.nx.ne_type h2 (by decide)) u⟩, h.can, h.pos, h.le, h.hb⟩
/-- A struct of three stored into a table's variable. -/
def put3 (Y : World) (b : Nat) (u v x : Value) : World := ((Y.setCell ⟨b, 0, none⟩ u).setCell ⟨b, 1, none⟩ v).setCell ⟨b, 2, none⟩ x
theorem TVar.put3 (h : TVar w Y b A X ca cx T L) {c0 c1 c2 : Value} (h2 : Y.heap[b2]? = some (.cells #[c0, c1, c2] 54 (0, 0))) (hne : b ≠ b2) (u v x : Value) : TVar w (put3 Y b2 u v x) b A X ca cx T L :=
  ((h.set h2 hne 0 u).set (blk_set h2 0 u) hne 1 v).set (blk_set (blk_set h2 0 u) 1 v) hne 2 x
theorem put3_blk {c0 c1 c2 u v x : Value} (h2 : Y.heap[b2]? = some (.cells #[c0, c1, c2] 54 (0, 0))) : (put3 Y b2 u v x).heap[b2]? = some (.cells #[u, v, x] 54 (0, 0)) := blk_set (blk_set (blk_set h2 0 u) 1 v) 2 x
theorem put3_below {c0 c1 c2 u v x : Value} (hb : Below w.heap.size w Y) (hb2 : w.heap.size ≤ b2) : Below w.heap.size w (put3 Y b2 u v x) := ((hb.setCell (p := ⟨b2, 0, none⟩) hb2 u).setCell (p := ⟨b2, 1, none⟩) hb2 v).setCell (p := ⟨b2, 2, none⟩) hb2 x
theorem put3_tab {c0 c1 c2 u v x : Value} (h : TabAt Y w.heap.size A X ca cx T) (h2 : Y.heap[b2]? = some (.cells #[c0, c1, c2] 54 (0, 0))) : TabAt (put3 Y b2 u v x) w.heap.size A X ca cx T :=
  ⟨((h.acc.setOther (p := ⟨b2, 0, none⟩) (h.acc.ne_type h2 (by decide)) u).setOther (p := ⟨b2, 1, none⟩) (h.acc.ne_type h2 (by decide)) v).setOther (p := ⟨b2, 2, none⟩) (h.acc.ne_type h2 (by decide)) x,
    ((h.nx.setOther (p := ⟨b2, 0, none⟩) (h.nx.ne_type h2 (by decide)) u).setOther (p := ⟨b2, 1, none⟩) (h.nx.ne_type h2 (by decide)) v).setOther (p := ⟨b2, 2, none⟩) (h.nx.ne_type h2 (by decide)) x⟩
theorem TVar.cells (h : TVar w Y b A X ca cx T L) : Y.cell? ⟨b, 0, none⟩ = some (.int .i64 0) ∧ Y.cell? ⟨b, 1, none⟩ = some (.slice A T.n ca) ∧ Y.cell? ⟨b, 2, none⟩ = some (.slice X (256 * T.n) cx) := ⟨blk_cell h.blk 0, blk_cell h.blk 1, blk_cell h.blk 2⟩
end
end Go.Proofs.YtejmjjgbbojfbaaDoor
