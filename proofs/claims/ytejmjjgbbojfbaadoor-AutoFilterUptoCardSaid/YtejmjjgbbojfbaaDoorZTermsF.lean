/- (*Auto).Terms, as a range over a function asks it. -/
import Derived.RangeFuncNested
import Derived.RangeFuncBound
import Derived.RangeFuncCalls
import Derived.RangeFuncLeaves
import Derived.RangeFuncBox
import Derived.Shelf.Abstract
import Derived.Shelf.RegionOpen
import Derived.OwnWalkIn
import Derived.TacticsInMore
import Derived.LoopNIn
import Derived.LoopIn
import Derived.Sort.CutIn
import Derived.Test.YtejmjjgbbojfbaaDoorZG9
import Derived.Test.YtejmjjgbbojfbaaDoorZG8
import Derived.Test.YtejmjjgbbojfbaaDoorZG9
namespace Go.Proofs.YtejmjjgbbojfbaaDoor
set_option linter.unusedVariables false
open Go.ChangeShapes Go.WideShapes Go.ChangeAt Go.RowKit Go.Shelf
attribute [local go_sem] Oper.semAt_some

def encE (x : Nat × EntV) : Array Value := #[.int .i64 (x.1 : Nat), .agg #[.string x.2.k, .int .i64 x.2.d, .int .i64 x.2.t, .int .i64 x.2.a, .int .i64 x.2.s]]
/-- What a round of a walk over a dictionary keeps. -/
structure KpT (n0 b0 b1 b2 : Nat) (A B : World) : Prop where
  below : Below n0 A B
  k0 : B.heap[b0]? = A.heap[b0]?
  k1 : B.heap[b1]? = A.heap[b1]?
  k2 : B.heap[b2]? = A.heap[b2]?
theorem KpT.refl (n0 b0 b1 b2 : Nat) (A : World) : KpT n0 b0 b1 b2 A A := ⟨Below.refl _ _, rfl, rfl, rfl⟩
theorem KpT.trans {n0 b0 b1 b2 : Nat} {A B C : World} (h : KpT n0 b0 b1 b2 A B) (k : KpT n0 b0 b1 b2 B C) : KpT n0 b0 b1 b2 A C := ⟨h.below.trans k.below, k.k0.trans h.k0, k.k1.trans h.k1, k.k2.trans h.k2⟩
theorem KpT.putObj {n0 b0 b1 b2 : Nat} {w : World} (hn : n0 ≤ w.heap.size) (h0 : b0 < w.heap.size) (h1 : b1 < w.heap.size) (h2 : b2 < w.heap.size) (W : World) (l : Nat) (o o' : Obj) (hl : w.heap.size ≤ l) (h : W.heap[l]? = some o) (hc : o.isCells = false) (hw : o.isWalk = false) : KpT n0 b0 b1 b2 W (W.putObj l o') :=
  ⟨belowK_b hn W l o o' hl h hc hw, World.putObj_heap_other (by omega), World.putObj_heap_other (by omega), World.putObj_heap_other (by omega)⟩
theorem KpT.of_below {n0 b0 b1 b2 : Nat} {A B : World} (h : Below A.heap.size A B) (hn : n0 ≤ A.heap.size) (h0 : b0 < A.heap.size) (h1 : b1 < A.heap.size) (h2 : b2 < A.heap.size) : KpT n0 b0 b1 b2 A B := ⟨h.mono hn, h.block _ h0, h.block _ h1, h.block _ h2⟩
theorem KpT.on {n0 b0 b1 b2 : Nat} {W A B : World} (k : KpT n0 b0 b1 b2 W A) (h : Below A.heap.size A B) (hn : n0 ≤ W.heap.size) (h0 : b0 < W.heap.size) (h1 : b1 < W.heap.size) (h2 : b2 < W.heap.size) (hs : W.heap.size ≤ A.heap.size) : KpT n0 b0 b1 b2 W B := k.trans (KpT.of_below h (by omega) (by omega) (by omega) (by omega))

theorem grown_below {W W' : World} (h : Below W.heap.size W W') : W.grownBy W' none := ⟨h.os, h.tape, h.output, h.size, fun k hk _ => h.block k hk⟩
theorem abides_below {β : Type} {B : Nat} {J : β → World → Prop} (h : AbidesFrom B J) {s : β} {W W' : World} (hs : J s W) (hb : Below W.heap.size W W') : J s W' := h s W W' none hs (grown_below hb) (fun r e => by cases e)
set_option maxRecDepth 100000 in
set_option maxHeartbeats 8000000 in
theorem termsc_in (n : Nat) (hn : 1 ≤ n) (w0 : World) (base q : Nat) (v : Value) (es : List EntV) (hD : DictAt w0 base q v es) (hri : rising none es) (hel : es.length ≤ 1000000) (hks : ∀ (i : Nat) (hi : i < es.length), es[i].k.size ≤ 65) (p : Nat) (M : Mach) (hA : IsAuto w0 p M) (h : ByteArray) (b0 b1 b2 l : Nat) (J Jx : List (Nat × EntV) → World → Prop)
    (hY : ∀ pre x W, J pre W → pre.length < (termsP M h.data.toList es es.length).length → YieldAt Fence.wide (n - 1) Tryd.prog l (encE x) W fun e W' => (e = .returned (.bool true) ∧ J (pre ++ [x]) W' ∧ KpT w0.heap.size b0 b1 b2 W W') ∨ (e = .returned (.bool false) ∧ Jx (pre ++ [x]) W'))
    (W : World) (hb : Below w0.heap.size w0 W) (h0 : W.heap[b0]? = some (.cells #[.pointer (some ⟨q, 0, none⟩)] 68 (0, 0))) (h1 : W.heap[b1]? = some (.cells #[.string h] 9 (0, 0))) (h2 : W.heap[b2]? = some (.cells #[.pointer (some ⟨p, 0, none⟩)] 27 (0, 0))) (hJ : J [] W) (hab : AbidesFrom W.heap.size J) :
    CallsIn Fence.wide n Tryd.prog 76 #[.func (.yield l) #[] #[], .pointer (some ⟨b0, 0, none⟩), .pointer (some ⟨b1, 0, none⟩), .pointer (some ⟨b2, 0, none⟩)] W fun e W' => (∃ v, e = .returned v) ∧
      ((∃ ys, ys = termsP M h.data.toList es es.length ∧ J ys W') ∨ (∃ pre, (∃ k, k ≤ es.length ∧ pre = termsP M h.data.toList es k) ∧ Jx pre W')) := by
  have c0 : W.cell? ⟨b0, 0, none⟩ = some (.pointer (some ⟨q, 0, none⟩)) := blk_cell h0 0
  have c1 : W.cell? ⟨b1, 0, none⟩ = some (.string h) := blk_cell h1 0
  have C0 := heads_any W base q v es (hD.below hb (Nat.le_refl _)) hri (by omega) h
  have hle := headsN_le es h.data.toList
  have hlow := terms_low (M := M) (es := es) (h := h.data.toList)
  have hhigh := fun i (hi : seekP es h.data.toList + headsN es h.data.toList ≤ i) => terms_high (M := M) (es := es) (h := h.data.toList) hri (i := i) hi
  have hskip := fun i n (hi : i < es.length) g1 g2 hd j hj => terms_skip (M := M) (es := es) (h := h.data.toList) hri (i := i) (n := n) hi g1 g2 hd (j := j) hj
  have hin := fun t ht g1 g2 => heads_in es h.data.toList t ht g1 g2
  obtain ⟨S, hS⟩ : ∃ S, seekP es h.data.toList = S := ⟨_, rfl⟩
  obtain ⟨B, hB⟩ : ∃ B, headsN es h.data.toList = B := ⟨_, rfl⟩
  rw [hS, hB] at C0 hle
  rw [hS] at hlow
  simp only [hS, hB] at hhigh hskip hin
  obtain ⟨E, hE⟩ : ∃ E, S + B = E := ⟨_, rfl⟩
  rw [hE] at C0 hle
  simp only [hE] at hhigh hskip hin
  have hSE : S ≤ E := by omega
  have HLOW := Lib.hid hlow
  have HHIGH := Lib.hid hhigh
  have HSKIP := Lib.hid hskip
  have HIN := Lib.hid hin
  have HD := Lib.hid hD
  have HRI := Lib.hid hri
  have HKS := Lib.hid hks
  have HA := Lib.hid hA
  have HB := Lib.hid hb
  have H0 := Lib.hid h0
  have H1 := Lib.hid h1
  have H2 := Lib.hid h2
  have HY := Lib.hid hY
  have HJ := Lib.hid hJ
  have HAB := Lib.hid (show ∀ s A B, J s A → Below A.heap.size A B → J s B from fun s A B hs hb => abides_below hab hs hb)
  have HWS := Lib.hid hb.size
  have HL0 := Lib.hid (lt_of_heap h0)
  have HL1 := Lib.hid (lt_of_heap h1)
  have HL2 := Lib.hid (lt_of_heap h2)
  have HEL := Lib.hid hel
  have HLE := Lib.hid hle
  clear hab hD hri hks hA hb h0 h1 h2 hY hJ hlow hhigh hskip hin hS hB hE hel hle
  refine callsIn_of_wp Tryd.func76 rfl trivial ?_ rfl
  simp only [Tryd.ntmps76, List.size_toArray, List.length_cons, List.length_nil, Nat.reduceAdd, Nat.reduceSub, Array.replicate_succ, Array.replicate_zero, List.push_toArray, List.append_toArray, List.nil_append, List.cons_append]
  gi_wp2_with (refine ⟨trivial, ?_⟩; gi_at_call 77; refine (callsIn_wide.2 C0).mono ?_; rintro e w1 ⟨rfl, hb1⟩)
  have HKP0 := Lib.hid (KpT.of_below hb1 HWS.out HL0.out HL1.out HL2.out)
  have HZ1 := Lib.hid hb1.size
  have HJ1 : RowKit.Hid (J [] w1) := Lib.hid (HAB.out _ _ _ HJ.out hb1)
  clear C0 c0 c1 hb1
  gi_loopw [7] (fun s7 wr => ∃ i : Nat, s7 = .int .i64 (i : Nat) ∧ S ≤ i ∧ i ≤ E ∧ J (termsP M h.data.toList es i) wr ∧ KpT w0.heap.size b0 b1 b2 W wr ∧ W.heap.size ≤ wr.heap.size) (fun s7 _ => es.length - (intOf s7).toNat)
  case atStart => exact ⟨S, rfl, Nat.le_refl _, hSE, by rw [HLOW.out]; exact HJ1.out, HKP0.out, HZ1.out⟩
  case round =>
    obtain ⟨i, rfl, hSi, hiE, hJs, hkp, hzr⟩ := hrel
    by_cases hlt : i < E
    · have hil : i < es.length := by have := HLE.out; omega
      have g0 := hkp.k0.trans H0.out
      have g1 := hkp.k1.trans H1.out
      have g2 := hkp.k2.trans H2.out
      have c0 : wr.cell? ⟨b0, 0, none⟩ = some (.pointer (some ⟨q, 0, none⟩)) := blk_cell g0 0
      have C1 := at_in wr base q v es (HD.out.below (HB.out.trans hkp.below) (Nat.le_refl _)) (by have := HEL.out; omega) i hil
      have hpi := HIN.out i hil hSi hlt
      have hks := HKS.out i hil
      have hsk := fun n => HSKIP.out i n hil hSi hlt
      have hht := termsP_hit (M := M) (h := h.data.toList) (es := es) (k := i)
      have hno := termsP_no (M := M) (h := h.data.toList) (es := es) (k := i)
      rw [← entD_eq es i hil] at C1 hpi hks
      generalize entD es i = en at C1 hpi hks hsk hht hno
      obtain ⟨ek, ed, et, ea, ez⟩ := en
      have C1 : Calls Tryd.prog 61 #[.pointer (some ⟨q, 0, none⟩), .int .i64 i] wr fun e w' => e = .returned (.tuple #[.agg #[.string ek, .int .i64 ed, .int .i64 et, .int .i64 ea, .int .i64 ez], .bool true]) ∧ Below wr.heap.size wr w' := C1
      have hks : ek.size ≤ 65 := hks
      have hhk : h.size ≤ ek.size := by
        obtain ⟨r, hr⟩ := (pre_iff _ _).1 hpi
        have hr : ek.data.toList = h.data.toList ++ r := hr
        have h1 : ek.data.toList.length = ek.size := Array.length_toList (xs := ek.data)
        have h2 : h.data.toList.length = h.size := Array.length_toList (xs := h.data)
        rw [hr, List.length_append] at h1
        omega
      have i1 : (i : Int) < (E : Int) := by omega
      have HPI := Lib.hid hpi
      have HSK := Lib.hid hsk
      have HHT := Lib.hid hht
      have HNO := Lib.hid hno
      have HJS := Lib.hid hJs
      have HKP := Lib.hid hkp
      have HZR := Lib.hid hzr
      have G0 := Lib.hid g0
      have G1 := Lib.hid g1
      have G2 := Lib.hid g2
      have HSI := Lib.hid hSi
      clear hpi hsk hht hno hJs hkp hzr g0 g1 g2 hSi hiE
      gi_upto_region 4 with (refine ⟨trivial, ?_⟩; gi_at_call 61; refine (callsIn_wide.2 C1).mono ?_; rintro e w2 ⟨rfl, hb2⟩)
      have hb3 : Below w2.heap.size w2 (w2.alloc (.cells #[.string ek, .int .i64 ed, .int .i64 et, .int .i64 ea, .int .i64 ez] 116)) := (Below.refl _ _).alloc (Nat.le_refl _) _
      have hxe := heap_alloc_new w2 (.cells #[.string ek, .int .i64 ed, .int .i64 et, .int .i64 ea, .int .i64 ez] 116)
      have hb13 := hb2.trans (hb3.mono hb2.size)
      generalize w2.alloc (.cells #[.string ek, .int .i64 ed, .int .i64 et, .int .i64 ea, .int .i64 ez] 116) = w3 at hb3 hxe hb13 ⊢
      generalize w2.heap.size = eb at hxe ⊢
      have KP3 := HKP.out.on hb13 HWS.out HL0.out HL1.out HL2.out HZR.out
      have J3 := HAB.out _ _ _ HJS.out hb13
      have B3 := HB.out.trans KP3.below
      have d1 : w3.cell? ⟨b1, 0, none⟩ = some (.string h) := blk_cell (KP3.k1.trans H1.out) 0
      have d2 : w3.cell? ⟨b2, 0, none⟩ = some (.pointer (some ⟨p, 0, none⟩)) := blk_cell (KP3.k2.trans H2.out) 0
      have x0 : w3.cell? ⟨eb, 0, none⟩ = some (.string ek) := blk_cell hxe 0
      obtain ⟨hp, T, x, fs, ft, fa, I, ⟨hc, -⟩, m1, m2, m3, i4, i5, i6⟩ := HA.out.below B3
      have Z3 := Lib.hid (Nat.le_trans HZR.out hb13.size)
      have HXE := Lib.hid hxe
      have KP3 := Lib.hid KP3
      have J3 := Lib.hid J3
      have B3 := Lib.hid B3
      have M2 := Lib.hid m2
      have M3 := Lib.hid m3
      have I4 := Lib.hid i4
      have I5 := Lib.hid i5
      have I6 := Lib.hid i6
      have HC := Lib.hid hc
      have HP := Lib.hid hp
      have C2 := (i6 w3 (Below.refl _ _)).1
      have mm := m1.1 w3
      have me := m1.2 #[x] w3
      clear hb2 hb3 hb13 hxe C1 HKP HJS HZR G0 G1 G2 m1 m2 m3 i4 i5 i6 c0 hp i1
      gi_upto_region 5 with fail
      gi_wp2_with fail
      refine ⟨trivial, (callsIn_wide.2 C2).mono ?_⟩
      rintro e w4 ⟨rfl, hb4⟩
      clear C2 mm me
      have hexr : (ek.extract h.size ek.size).data.toList = ek.data.toList.drop h.data.toList.length := by
        rw [show h.data.toList.length = h.size from Array.length_toList (xs := h.data)]
        have h1 : ek.data.toList.length = ek.size := Array.length_toList (xs := ek.data)
        have h2 : (ek.extract h.size ek.size).data.toList = (ek.data.toList.drop h.size).take (ek.size - h.size) := by
          rw [ByteArray.data_extract]; simp
        rw [h2, List.take_of_length_le (by rw [List.length_drop]; omega)]
      have hexs : (ek.extract h.size ek.size).size = ek.size - h.size := by rw [ByteArray.size_extract]; omega
      generalize ek.extract h.size ek.size = R at hexr hexs ⊢
      have hrl : R.data.toList.length = R.size := Array.length_toList (xs := R.data)
      have HR := Lib.hid hexr
      have HRL := Lib.hid hrl
      have hRs : R.size ≤ 65 := by omega
      have HRS := Lib.hid hexs
      have HKS2 := Lib.hid hks
      have HHK := Lib.hid hhk
      have HB4 := Lib.hid hb4
      clear hexr hrl hexs hks hhk hb4
      gi_wp2
      gi_loopw [11, 12] (fun s11 s12 wx => ∃ r : Nat, s11 = .int .i64 (r : Nat) ∧ r ≤ R.size ∧ s12 = .string (runM M (R.data.toList.take r)) ∧ (runM M (R.data.toList.take r) ≠ ⟨#[]⟩ → I (runM M (R.data.toList.take r))) ∧ Below w3.heap.size w3 wx) (fun s11 _ _ => R.size - (intOf s11).toNat)
      case atStart => exact ⟨0, rfl, Nat.zero_le _, rfl, I4.out, HB4.out⟩
      case round =>
        obtain ⟨r, rfl, hr, rfl, hI, hbx⟩ := hrel
        obtain ⟨d, hd⟩ : ∃ d, runM M (R.data.toList.take r) = d := ⟨_, rfl⟩
        rw [hd] at hI ⊢
        have HDD := Lib.hid hd
        have HI := Lib.hid hI
        have HBX := Lib.hid hbx
        have e1 : wr.cell? ⟨b1, 0, none⟩ = some (.string h) := (hbx.cell (World.block_lt_of_cell? w3 _ d1)).trans d1
        have e2 : wr.cell? ⟨b2, 0, none⟩ = some (.pointer (some ⟨p, 0, none⟩)) := (hbx.cell (World.block_lt_of_cell? w3 _ d2)).trans d2
        have y0 : wr.cell? ⟨eb, 0, none⟩ = some (.string ek) := (hbx.cell (World.block_lt_of_cell? w3 _ x0)).trans x0
        have yc : wr.cell? ⟨p, 0, none⟩ = some (.iface T x) := (hbx.cell HP.out).trans HC.out
        clear hd hI hbx
        have e0 : wr.cell? ⟨b0, 0, none⟩ = some (.pointer (some ⟨q, 0, none⟩)) := blk_cell ((HBX.out.block b0 (Nat.lt_of_lt_of_le HL0.out Z3.out)).trans (KP3.out.k0.trans H0.out)) 0
        by_cases hd0 : d = ⟨#[]⟩
        · subst hd0
          by_cases hlr : r < R.size
          · have r1 : (r : Int) < (R.size : Int) := by omega
            have hsz : R.size = ek.size - h.size := HRS.out
            have hkk := HKS2.out
            have hhk2 := HHK.out
            have hmk : h.size + r ≤ ek.size := by omega
            have hkey : (ek.extract 0 (h.size + r)).data.toList = ek.data.toList.take (h.data.toList.length + r) := by
              rw [show h.data.toList.length = h.size from Array.length_toList (xs := h.data), ← ext_take, ba_list]
            have hdd : runM M ((ek.data.toList.drop h.data.toList.length).take r) = ⟨#[]⟩ := by rw [← HR.out]; exact HDD.out
            have hsk := HSK.out r hdd
            have C4 := past_any wr.drew base q v es (HD.out.below (B3.out.trans ((HBX.out.drew).mono B3.out.size)) (Nat.le_refl _)) HRI.out (by have := HEL.out; omega) (ek.extract 0 (h.size + r))
            rw [hkey] at C4
            have hsk : ∀ j, j = max (i + 1) (seekP es (ek.data.toList.take (h.data.toList.length + r)) + headsN es (ek.data.toList.take (h.data.toList.length + r))) → i < j ∧ j ≤ E ∧ termsP M h.data.toList es j = termsP M h.data.toList es i := hsk
            obtain ⟨m, hm⟩ : ∃ m, h.size + r = m := ⟨_, rfl⟩
            obtain ⟨N9, hN9⟩ : ∃ N9, seekP es (ek.data.toList.take (h.data.toList.length + r)) + headsN es (ek.data.toList.take (h.data.toList.length + r)) = N9 := ⟨_, rfl⟩
            rw [hN9] at C4 hsk
            rw [hm] at C4 hmk
            have w1 : IntKind.i64.wrap ((h.size : Int) + (r : Int)) = (m : Int) := by rw [IntKind.wrap_i64]; omega
            have w2 : IntKind.i64.wrap ((i : Int) + 1) = ((i + 1 : Nat) : Int) := by rw [IntKind.wrap_i64]; have := HEL.out; omega
            have m1 : (m : Int) ≤ (ek.size : Int) := by omega
            obtain ⟨j, hj⟩ : ∃ j, j = max (i + 1) N9 := ⟨_, rfl⟩
            have hj2 : max ((i : Int) + 1) (N9 : Int) = (j : Int) := by omega
            obtain ⟨g1, g2, g3⟩ := hsk j hj
            have q0 : (⟨#[]⟩ : ByteArray).toList.isEmpty = true := by rw [ba_list]; rfl
            have HG := Lib.hid g1
            have HG2 := Lib.hid g2
            have HG3 := Lib.hid g3
            clear hsz hkk hhk2 hkey hdd hsk hm hN9 hj g1 g2 g3 hmk
            gi_wp2
            gi_region_with (refine ⟨trivial, ?_⟩; gi_at_call 78; refine (callsIn_wide.2 C4).mono ?_; rintro e w5 ⟨rfl, hb5⟩)
            all_goals
              have hb35 : Below w3.heap.size w3 w5 := HBX.out.drew.trans (hb5.mono HBX.out.drew.size)
              have HB35 := Lib.hid hb35
              clear hb5 hb35
              simp only [Act.put, List.getElem_toArray, List.getElem_cons_zero, List.getElem_cons_succ, List.setIfInBounds_toArray, List.set_cons_zero, List.set_cons_succ]
              gi_wp2
              go_roundw
              case rel => exact ⟨j, by first | rfl | (rw [hj2]), by have := HSI.out; have := HG.out; omega, HG2.out, by rw [HG3.out]; exact HAB.out _ _ _ J3.out HB35.out, KP3.out.on HB35.out HWS.out HL0.out HL1.out HL2.out Z3.out, Nat.le_trans Z3.out HB35.out.size⟩
              case measure => have h1 := HG.out; have h2 := HG2.out; have h3 := HLE.out; simp [intOf]; omega
          · have r1 : ¬ (r : Int) < (R.size : Int) := by omega
            have hsz : R.size = ek.size - h.size := HRS.out
            have hkk := HKS2.out
            have hhk2 := HHK.out
            have hmk : h.size + r ≤ ek.size := by omega
            have hkey : (ek.extract 0 (h.size + r)).data.toList = ek.data.toList.take (h.data.toList.length + r) := by
              rw [show h.data.toList.length = h.size from Array.length_toList (xs := h.data), ← ext_take, ba_list]
            have hdd : runM M ((ek.data.toList.drop h.data.toList.length).take r) = ⟨#[]⟩ := by rw [← HR.out]; exact HDD.out
            have hsk := HSK.out r hdd
            have C4 := past_any wr.drew base q v es (HD.out.below (B3.out.trans ((HBX.out.drew).mono B3.out.size)) (Nat.le_refl _)) HRI.out (by have := HEL.out; omega) (ek.extract 0 (h.size + r))
            rw [hkey] at C4
            have hsk : ∀ j, j = max (i + 1) (seekP es (ek.data.toList.take (h.data.toList.length + r)) + headsN es (ek.data.toList.take (h.data.toList.length + r))) → i < j ∧ j ≤ E ∧ termsP M h.data.toList es j = termsP M h.data.toList es i := hsk
            obtain ⟨m, hm⟩ : ∃ m, h.size + r = m := ⟨_, rfl⟩
            obtain ⟨N9, hN9⟩ : ∃ N9, seekP es (ek.data.toList.take (h.data.toList.length + r)) + headsN es (ek.data.toList.take (h.data.toList.length + r)) = N9 := ⟨_, rfl⟩
            rw [hN9] at C4 hsk
            rw [hm] at C4 hmk
            have w1 : IntKind.i64.wrap ((h.size : Int) + (r : Int)) = (m : Int) := by rw [IntKind.wrap_i64]; omega
            have w2 : IntKind.i64.wrap ((i : Int) + 1) = ((i + 1 : Nat) : Int) := by rw [IntKind.wrap_i64]; have := HEL.out; omega
            have m1 : (m : Int) ≤ (ek.size : Int) := by omega
            obtain ⟨j, hj⟩ : ∃ j, j = max (i + 1) N9 := ⟨_, rfl⟩
            have hj2 : max ((i : Int) + 1) (N9 : Int) = (j : Int) := by omega
            obtain ⟨g1, g2, g3⟩ := hsk j hj
            have q0 : (⟨#[]⟩ : ByteArray).toList.isEmpty = true := by rw [ba_list]; rfl
            have HG := Lib.hid g1
            have HG2 := Lib.hid g2
            have HG3 := Lib.hid g3
            clear hsz hkk hhk2 hkey hdd hsk hm hN9 hj g1 g2 g3 hmk
            gi_wp2
            gi_region_with (refine ⟨trivial, ?_⟩; gi_at_call 78; refine (callsIn_wide.2 C4).mono ?_; rintro e w5 ⟨rfl, hb5⟩)
            all_goals
              have hb35 : Below w3.heap.size w3 w5 := HBX.out.drew.trans (hb5.mono HBX.out.drew.size)
              have HB35 := Lib.hid hb35
              clear hb5 hb35
              simp only [Act.put, List.getElem_toArray, List.getElem_cons_zero, List.getElem_cons_succ, List.setIfInBounds_toArray, List.set_cons_zero, List.set_cons_succ]
              gi_wp2
              go_roundw
              case rel => exact ⟨j, by first | rfl | (rw [hj2]), by have := HSI.out; have := HG.out; omega, HG2.out, by rw [HG3.out]; exact HAB.out _ _ _ J3.out HB35.out, KP3.out.on HB35.out HWS.out HL0.out HL1.out HL2.out Z3.out, Nat.le_trans Z3.out HB35.out.size⟩
              case measure => have h1 := HG.out; have h2 := HG2.out; have h3 := HLE.out; simp [intOf]; omega
        · have q9 : d.toList.isEmpty = false := by
            cases hq : d.toList.isEmpty
            · rfl
            · exact absurd (toList_nil hq) hd0
          by_cases hlr : r < R.size
          · have hil2 : r < R.data.toList.length := by rw [HRL.out]; exact hlr
            have C3 := (I6.out wr.drew HBX.out.drew).2.1 d (R[r]'hlr) (HI.out hd0) hd0
            have m2 := M2.out.1 wr.drew
            have e3 := M2.out.2 #[x, .string d, .int .u8 ((R[r]'hlr).toNat : Nat)] wr.drew
            have hnext : runM M (R.data.toList.take (r + 1)) = M.step d (R[r]'hlr) := by
              rw [List.take_add_one, List.getElem?_eq_getElem hil2, Option.toList_some, runM_snoc, HDD.out]
              unfold stepM; rw [if_neg hd0]; rfl
            have HN := Lib.hid hnext
            have HZ := Lib.hid hd0
            have r1 : (r : Int) < (R.size : Int) := by omega
            clear hd0 hnext hil2
            gi_wp2
            gi_region_with (refine ⟨trivial, (callsIn_wide.2 C3).mono ?_⟩; rintro e w5 ⟨rfl, hb5⟩)
            all_goals
              have HB35 := Lib.hid (HBX.out.drew.trans (hb5.mono HBX.out.drew.size))
              clear hb5
              gi_wp2
              go_roundw
              case rel => exact ⟨r + 1, by go_num, by omega, by rw [HN.out], by rw [HN.out]; exact I5.out d _ (HI.out HZ.out) HZ.out, HB35.out⟩
              case measure => simp [intOf]; omega
          · obtain rfl : r = R.size := by omega
            have hall : R.data.toList.take R.size = R.data.toList := by rw [← HRL.out]; exact List.take_length
            have hrun : runM M (ek.data.toList.drop h.data.toList.length) = d := by rw [← HR.out, ← hall]; exact HDD.out
            have hacc : hitB M h.data.toList ⟨ek, ed, et, ea, ez⟩ = M.acc d := by
              rw [hit_at HPI.out]
              show accM M (ek.data.toList.drop h.data.toList.length) = _
              unfold accM
              rw [hrun, decide_eq_true hd0, Bool.true_and]
            have C5 := (I6.out wr HBX.out).2.2 d (HI.out hd0) hd0
            have m3 := M3.out.1 wr
            have e3 := M3.out.2 #[x, .string d] wr
            have w2 : IntKind.i64.wrap ((i : Int) + 1) = ((i + 1 : Nat) : Int) := by rw [IntKind.wrap_i64]; have := HEL.out; omega
            have hht : M.acc d = true → termsP M h.data.toList es (i + 1) = termsP M h.data.toList es i ++ [(i, ⟨ek, ed, et, ea, ez⟩)] := fun e => HHT.out (by rw [hacc]; exact e)
            have hno : M.acc d = false → termsP M h.data.toList es (i + 1) = termsP M h.data.toList es i := fun e => HNO.out (by rw [hacc]; exact e)
            have HHT2 := Lib.hid hht
            have HNO2 := Lib.hid hno
            clear hall hrun hacc hd0 hht hno hlr
            cases hac : M.acc d with
            | true =>
              rw [hac] at C5
              have HT1 := Lib.hid (HHT2.out hac)
              clear hac
              gi_upto_region 9 with fail
              gi_wp2_with fail
              refine ⟨trivial, (callsIn_wide.2 C5).mono ?_⟩
              rintro e w5 ⟨rfl, hb5⟩
              have hb35 : Below w3.heap.size w3 w5 := HBX.out.trans (hb5.mono HBX.out.size)
              have hbl : w5.heap[eb]? = some (.cells #[.string ek, .int .i64 ed, .int .i64 et, .int .i64 ea, .int .i64 ez] 116 (0, 0)) := (hb35.block eb (lt_of_heap HXE.out)).trans HXE.out
              have z0 : w5.cell? ⟨eb, 0, none⟩ = some (.string ek) := blk_cell hbl 0
              have z1 : w5.cell? ⟨eb, 1, none⟩ = some (.int .i64 ed) := blk_cell hbl 1
              have z2 : w5.cell? ⟨eb, 2, none⟩ = some (.int .i64 et) := blk_cell hbl 2
              have z3 : w5.cell? ⟨eb, 3, none⟩ = some (.int .i64 ea) := blk_cell hbl 3
              have z4 : w5.cell? ⟨eb, 4, none⟩ = some (.int .i64 ez) := blk_cell hbl 4
              have hlen : (termsP M h.data.toList es i).length < (termsP M h.data.toList es es.length).length := by
                have h1 := (termsP_prefix M h.data.toList es (show i + 1 ≤ es.length by omega)).length_le
                rw [HT1.out, List.length_append] at h1
                simp only [List.length_cons, List.length_nil] at h1
                omega
              obtain ⟨fn, tmps, assign, body, hy, hR⟩ := HY.out _ (i, ⟨ek, ed, et, ea, ez⟩) w5 (HAB.out _ _ _ J3.out hb35) hlen
              unfold encE at hy
              dsimp only at hy
              have KP5 := Lib.hid (KP3.out.on hb35 HWS.out HL0.out HL1.out HL2.out Z3.out)
              have Z5 := Lib.hid (Nat.le_trans Z3.out hb35.size)
              clear C5 m3 e3 hb5 hb35 hbl hlen e1 e2 y0 yc
              gi_wp2
              refine hR.mono ?_
              rintro e W7 (⟨rfl, hJ7, hk7⟩ | ⟨rfl, hJx⟩)
              · have HJ7 : RowKit.Hid (J (termsP M h.data.toList es (i + 1)) W7) := Lib.hid (by rw [HT1.out]; exact hJ7)
                have KP7 := Lib.hid (KP5.out.trans hk7)
                have Z7 := Lib.hid (Nat.le_trans Z5.out hk7.below.size)
                clear hJ7 hk7 hR hy z0 z1 z2 z3 z4
                gi_wp2
                go_roundw
                case rel => exact ⟨i + 1, by first | rfl | rw [w2], by have := HSI.out; omega, hlt, HJ7.out, KP7.out, Z7.out⟩
                case measure => simp [intOf]; omega
              · have HJ7 : RowKit.Hid (Jx (termsP M h.data.toList es (i + 1)) W7) := Lib.hid (by rw [HT1.out]; exact hJx)
                clear hJx hR hy z0 z1 z2 z3 z4
                gi_wp2
                refine bodyPost_ret (results_none rfl _ _ _) rfl ?_
                exact ⟨⟨_, rfl⟩, .inr ⟨_, ⟨i + 1, by omega, rfl⟩, HJ7.out⟩⟩
            | false =>
              rw [hac] at C5
              have HT1 := Lib.hid (HNO2.out hac)
              clear hac
              gi_upto_region 9 with fail
              gi_wp2_with fail
              refine ⟨trivial, (callsIn_wide.2 C5).mono ?_⟩
              rintro e w5 ⟨rfl, hb5⟩
              have hb35 : Below w3.heap.size w3 w5 := HBX.out.trans (hb5.mono HBX.out.size)
              have HB35 := Lib.hid hb35
              clear C5 m3 e3 hb5 hb35 e1 e2 y0 yc
              gi_wp2
              refine ⟨fun f hf => (by cases hf), ?_⟩
              gi_wp2
              go_roundw
              case rel => exact ⟨i + 1, by first | rfl | rw [w2], by have := HSI.out; omega, hlt, by rw [HT1.out]; exact HAB.out _ _ _ J3.out HB35.out, KP3.out.on HB35.out HWS.out HL0.out HL1.out HL2.out Z3.out, Nat.le_trans Z3.out HB35.out.size⟩
              case measure => simp [intOf]; omega
    · obtain rfl : i = E := by omega
      have HJ9 : RowKit.Hid (J (termsP M h.data.toList es es.length) wr) := Lib.hid (by rw [HHIGH.out i (Nat.le_refl _) HLE.out]; exact hJs)
      have i1 : ¬ (i : Int) < (i : Int) := by omega
      clear hJs hkp hSi hSE hlt
      gi_wp2
      go_end0
      exact ⟨⟨_, rfl⟩, .inl HJ9.out⟩
/-- Terms' closure, as the law of a range over a function asks it. -/
theorem terms_stops (n : Nat) (hn : 1 ≤ n) (w0 : World) (base q : Nat) (v : Value) (es : List EntV) (hD : DictAt w0 base q v es) (hri : rising none es) (hel : es.length ≤ 1000000) (hks : ∀ (i : Nat) (hi : i < es.length), es[i].k.size ≤ 65) (p : Nat) (M : Mach) (hA : IsAuto w0 p M) (h : ByteArray) (b0 b1 b2 : Nat)
    (w : World) (hb : Below w0.heap.size w0 w) (h0 : w.heap[b0]? = some (.cells #[.pointer (some ⟨q, 0, none⟩)] 68 (0, 0))) (h1 : w.heap[b1]? = some (.cells #[.string h] 9 (0, 0))) (h2 : w.heap[b2]? = some (.cells #[.pointer (some ⟨p, 0, none⟩)] 27 (0, 0))) :
    SeqStopsK Fence.wide n Tryd.prog 76 #[.pointer (some ⟨b0, 0, none⟩), .pointer (some ⟨b1, 0, none⟩), .pointer (some ⟨b2, 0, none⟩)] encE (KpT w0.heap.size b0 b1 b2) (fun ys => ys = termsP M h.data.toList es es.length) (fun pre => ∃ k, k ≤ es.length ∧ pre = termsP M h.data.toList es k) (termsP M h.data.toList es es.length).length w :=
  fun l J Jx W hW hJ _ hY hJ0 =>
    termsc_in n hn w0 base q v es hD hri hel hks p M hA h b0 b1 b2 l J Jx hY W (hb.trans (hW.mono hb.size)) ((hW.block _ (lt_of_heap h0)).trans h0) ((hW.block _ (lt_of_heap h1)).trans h1) ((hW.block _ (lt_of_heap h2)).trans h2) hJ0 hJ
set_option maxRecDepth 100000 in
/-- Terms lays three boxes, and hands back its closure. -/
theorem terms_any (w : World) (p q : Nat) (h : ByteArray) :
    Calls Tryd.prog 60 #[.pointer (some ⟨p, 0, none⟩), .pointer (some ⟨q, 0, none⟩), .string h] w fun e w' => e = .returned (.func (.func 76) #[] #[.pointer (some ⟨w.heap.size + 1, 0, none⟩), .pointer (some ⟨w.heap.size + 1 + 1, 0, none⟩), .pointer (some ⟨w.heap.size, 0, none⟩)]) ∧ w' = ((w.alloc (.cells #[.pointer (some ⟨p, 0, none⟩)] 27)).alloc (.cells #[.pointer (some ⟨q, 0, none⟩)] 68)).alloc (.cells #[.string h] 9) := by
  have hmf : ∀ (fn : Fn) (first cap : Array Value) (w : World), (Instr.makeFunc fn first cap).run Tryd.prog w = .ok (.func fn first cap) w := fun _ _ _ _ => rfl
  go_enter Tryd.func60, Tryd.ntmps60
  go_wp2
  go_ret
  exact ⟨rfl, rfl⟩
end Go.Proofs.YtejmjjgbbojfbaaDoor
