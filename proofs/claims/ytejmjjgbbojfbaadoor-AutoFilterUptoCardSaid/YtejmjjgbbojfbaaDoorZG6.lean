/- Merged: DictM, Reader. -/
import Derived.Test.YtejmjjgbbojfbaaDoorZG3
import Derived.Test.YtejmjjgbbojfbaaDoorZG3
import Derived.Test.YtejmjjgbbojfbaaDoorZG5
import Derived.Test.YtejmjjgbbojfbaaDoorZG5
import Derived.Test.YtejmjjgbbojfbaaDoorZG5
import Derived.Handy
import Derived.Test.YtejmjjgbbojfbaaDoorZG1
import Derived.Test.YtejmjjgbbojfbaaDoorZG2
import Derived.Outline
/- dict: an entry's numbers; the bytes of a block. -/
namespace Go.Proofs.YtejmjjgbbojfbaaDoor
set_option linter.unusedVariables false
open Go.ChangeShapes Go.WideShapes Go.ChangeAt Go.RowKit

set_option maxRecDepth 100000 in
theorem numbers_any (w : World) (k : ByteArray) (d t a s : Int) :
    Calls Tryd.prog 67 #[.agg #[.string k, .int .i64 d, .int .i64 t, .int .i64 a, .int .i64 s]] w fun e w' => e = .returned (.agg #[.int .i64 d, .int .i64 t, .int .i64 a, .int .i64 s]) ∧ Below w.heap.size w w' := by
  go_enter Tryd.func67, Tryd.ntmps67
  go_wp2
  go_returns
  exact ⟨rfl, ((Below.refl _ _).alloc (Nat.le_refl _) _).alloc (by simp) _⟩
/-- The numbers of an entry, in the order of the image. -/
def EntV.nums (e : EntV) : List Int := [e.d, e.t, e.a, e.s]
def numsB (l : List Int) : List UInt8 := l.flatMap fun x => uvar x.toNat
theorem entB_nums (last : List UInt8) (e : EntV) : entB last e = uvar (shr last e.K) ++ (uvar (e.K.length - shr last e.K) ++ (e.K.drop (shr last e.K) ++ numsB e.nums)) := by
  simp [entB, numsB, EntV.nums]

def num4 (d t a s : Int) : Nat → Int
  | 0 => d
  | 1 => t
  | 2 => a
  | _ => s
theorem idx4 (d t a s : Int) : ∀ k, k < 4 → ∀ w, (Instr.index 145 (.agg #[.int .i64 d, .int .i64 t, .int .i64 a, .int .i64 s]) (.int .i64 (k : Nat))).run Tryd.prog w = .ok (.int .i64 (num4 d t a s k)) w
  | 0, _ => fun w => by kernel_rfl
  | 1, _ => fun w => by kernel_rfl
  | 2, _ => fun w => by kernel_rfl
  | 3, _ => fun w => by kernel_rfl
  | k + 4, h => by omega
theorem nums_drop (d t a s : Int) : ∀ k, k < 4 → ([d, t, a, s] : List Int).drop k = num4 d t a s k :: ([d, t, a, s] : List Int).drop (k + 1)
  | 0, _ => rfl
  | 1, _ => rfl
  | 2, _ => rfl
  | 3, _ => rfl
  | k + 4, h => by omega
theorem num4_ok {e : EntV} (h : entOk e = true) : ∀ k, 0 ≤ num4 e.d e.t e.a e.s k ∧ num4 e.d e.t e.a e.s k ≤ 2147483647 := by
  obtain ⟨h1, h2, h3, h4⟩ := entOk_num h
  intro k
  match k with
  | 0 => exact of_decide_eq_true h1
  | 1 => exact of_decide_eq_true h2
  | 2 => exact of_decide_eq_true h3
  | k + 3 => exact of_decide_eq_true h4
/-- A block of entries is none of a Writer's. -/
theorem Wr.ne_box {w : World} {base p : Nat} {v : Value} {bs : List UInt8} {B : Nat} {cs : Array Value} {fr : Nat × Nat} (h : Wr w base p v bs) (hg : w.heap[B]? = some (.cells cs 116 fr)) : ¬ WrB p v B := by
  rintro (rfl | hb)
  · rw [h.blk] at hg
    injection hg with hg
    injection hg with _ e _
    exact absurd e (by decide)
  · exact h.own.ne_type hg (by decide) hb
theorem drop_str (s : ByteArray) (k : Nat) (h : k ≤ s.size) : (s.extract k s.size).data.toList = s.data.toList.drop k ∧ (s.extract k s.size).size = s.size - k := by
  refine ⟨?_, by rw [ByteArray.size_extract]; omega⟩
  rw [ByteArray.data_extract]
  simp
  exact List.take_of_length_le (by rw [List.length_drop, show s.data.toList.length = s.size from Array.length_toList (xs := s.data)]; exact Nat.le_refl _)

set_option maxRecDepth 100000 in
set_option maxHeartbeats 1000000 in
theorem blockOf_any (w : World) (a : Option Addr) (n c : Nat) (es : List EntV) (hr : RdEnt w a n es) (hok : ∀ e ∈ es, entOk e = true) (hel : es.length ≤ 1000000000) (hT : (blkB [] es).length ≤ 1000000000) :
    Calls Tryd.prog 70 #[.slice a n c] w fun e w' => ∃ v', e = .returned v' ∧ Own w' w.heap.size 5 v' (bytesV (blkB [] es)) ∧ Below w.heap.size w w' := by
  obtain rfl := hr.1
  have hb1 : Below w.heap.size w (w.alloc (.cells #[.slice none 0 0] 164)) := (Below.refl _ _).alloc (Nat.le_refl _) _
  have hw1 := wr_new w
  have HR := Lib.hid hr
  have HOK := Lib.hid hok
  have HT := Lib.hid hT
  have HB1 := Lib.hid hb1
  have HW1 := Lib.hid hw1
  clear hr hok hb1 hw1 hT
  go_enter Tryd.func70, Tryd.ntmps70
  go_wp2_with fail
  refine (nw_any w).mono ?_
  rintro e w1 ⟨rfl, rfl⟩
  go_wp2
  go_loopw [4, 13] (fun s4 s13 wr => ∃ (i : Nat) (last : ByteArray) (v : Value) (acc : List UInt8), s4 = .string last ∧ s13 = .int .i64 i ∧ i ≤ es.length ∧ Wr wr w.heap.size w.heap.size v acc ∧ acc ++ blkB last.data.toList (es.drop i) = blkB [] es ∧ last.size ≤ 65 ∧ Below w.heap.size w wr) (fun _ s13 _ => es.length - (intOf s13).toNat)
  case atStart => exact ⟨0, ⟨#[]⟩, _, [], rfl, rfl, Nat.zero_le _, HW1.out, by simp, by decide, HB1.out⟩
  case round =>
    clear HW1 HB1
    obtain ⟨i, last, v, acc, rfl, rfl, hi, hw, htot, hls, hb⟩ := hrel
    have hz := hb.size
    have hal : acc.length ≤ 1000000000 := by have := congrArg List.length htot; rw [List.length_append] at this; have := HT.out; omega
    by_cases hlt : i < es.length
    · obtain ⟨b, o, rfl, hat⟩ := (HR.out.below hb (Nat.le_refl _)).at_ (by omega)
      have hei := hat i hlt
      have hoki := HOK.out es[i] (List.getElem_mem hlt)
      have hdr : es.drop i = es[i] :: es.drop (i + 1) := List.drop_eq_getElem_cons hlt
      obtain ⟨en, hen⟩ : ∃ en, es[i] = en := ⟨_, rfl⟩
      rw [hen] at hei hoki hdr
      rw [hdr] at htot
      obtain ⟨ek, ed, et, ea, es'⟩ := en
      obtain ⟨d0, d1, d2, d3, d4⟩ := hei
      simp only at d0 d1 d2 d3 d4
      have hekl := (entOk_len hoki).2
      have hnum := num4_ok hoki
      have hkk : (EntV.K ⟨ek, ed, et, ea, es'⟩).length = ek.size := Array.length_toList (xs := ek.data)
      rw [hkk] at hekl
      rw [show blkB last.data.toList (⟨ek, ed, et, ea, es'⟩ :: es.drop (i + 1)) = entB last.data.toList ⟨ek, ed, et, ea, es'⟩ ++ blkB ek.data.toList (es.drop (i + 1)) from rfl, entB_nums, hkk] at htot
      have hshr := (shr_le last.data.toList ek.data.toList).2
      rw [show ek.data.toList.length = ek.size from hkk] at hshr
      have C1 := shared_any (wr.alloc (.cells #[.string ek, .int .i64 ed, .int .i64 et, .int .i64 ea, .int .i64 es'] 116)) last ek (by omega) (by omega)
      change acc ++ (uvar (shr last.data.toList ek.data.toList) ++ (uvar (ek.size - shr last.data.toList ek.data.toList) ++ (ek.data.toList.drop (shr last.data.toList ek.data.toList) ++ numsB [ed, et, ea, es'])) ++ blkB ek.data.toList (es.drop (i + 1))) = blkB [] es at htot
      obtain ⟨k1, hk1⟩ : ∃ k1, shr last.data.toList ek.data.toList = k1 := ⟨_, rfl⟩
      rw [hk1] at htot C1 hshr
      obtain ⟨hx1, hx2⟩ := drop_str ek k1 hshr
      obtain ⟨W1, hW1⟩ : ∃ W1, W1 = wr.alloc (.cells #[.string ek, .int .i64 ed, .int .i64 et, .int .i64 ea, .int .i64 es'] 116) := ⟨_, rfl⟩
      have hg1 : W1.heap[wr.heap.size]? = some (.cells #[.string ek, .int .i64 ed, .int .i64 et, .int .i64 ea, .int .i64 es'] 116 (0, 0)) := by rw [hW1]; exact heap_alloc_new wr _
      have hw1 : Wr W1 w.heap.size w.heap.size v acc := by rw [hW1]; exact hw.eff (F := fun _ => False) ((Eff.refl _ _).alloc _) (fun _ _ f => f)
      have hb1 : Below w.heap.size w W1 := by rw [hW1]; exact hb.alloc hb.size _
      have HW1 := Lib.hid hW1
      have HG1 := Lib.hid hg1
      have HWR := Lib.hid hw1
      have HB := Lib.hid hb1
      have HTOT := Lib.hid htot
      have HX1 := Lib.hid hx1
      have HX2 := Lib.hid hx2
      have HNUM := Lib.hid hnum
      clear hk1 hW1 hg1 hw1 hb1 htot hx1 hx2 hat hoki hdr hen hkk hw hb hnum
      go_wp2_with fail
      refine C1.mono ?_
      rintro e w2 ⟨rfl, dd, rfl⟩
      clear C1 d0 d1 d2 d3 d4
      rw [← HW1.out]
      have C2 := wuv_any (W1.drewN dd) w.heap.size w.heap.size v acc (HWR.out.drewN dd) HB.out.size (by omega) k1 (by omega)
      have g0 : W1.cell? ⟨wr.heap.size, 0, none⟩ = some (.string ek) := blk_cell HG1.out 0
      go_wp2_with fail
      refine C2.mono ?_
      rintro e w3 ⟨rfl, v3, hw3, hwr3⟩
      clear C2 g0
      have hg3 := (hwr3.eff.block wr.heap.size (lt_of_heap HG1.out) ((HWR.out.drewN dd).ne_box HG1.out)).trans HG1.out
      have hb3 : Below w.heap.size w w3 := (below_drewN HB.out dd).trans (hwr3.below (HWR.out.drewN dd) HB.out.size)
      have hul := (uvar_le k1 (by omega)).2
      have C3 := wtext_any w3 w.heap.size w.heap.size v3 _ hw3 hb3.size (by rw [List.length_append]; omega) (ek.extract k1 ek.size) (by rw [HX2.out]; omega)
      have g0 : w3.cell? ⟨wr.heap.size, 0, none⟩ = some (.string ek) := blk_cell hg3 0
      have HW3 := Lib.hid hw3
      have HG3 := Lib.hid hg3
      have HB3 := Lib.hid hb3
      clear hw3 hwr3 hg3 hb3
      go_wp2_with fail
      refine C3.mono ?_
      rintro e w4 ⟨rfl, v4, hw4, hwr4⟩
      clear C3 g0
      rw [HX1.out, HX2.out] at hw4
      have hg4 := (hwr4.eff.block wr.heap.size (lt_of_heap HG3.out) (HW3.out.ne_box HG3.out)).trans HG3.out
      have hb4 : Below w.heap.size w w4 := HB3.out.trans (hwr4.below HW3.out HB3.out.size)
      have d0 : w4.cell? ⟨wr.heap.size, 0, none⟩ = some (.string ek) := blk_cell hg4 0
      have d1 : w4.cell? ⟨wr.heap.size, 1, none⟩ = some (.int .i64 ed) := blk_cell hg4 1
      have d2 : w4.cell? ⟨wr.heap.size, 2, none⟩ = some (.int .i64 et) := blk_cell hg4 2
      have d3 : w4.cell? ⟨wr.heap.size, 3, none⟩ = some (.int .i64 ea) := blk_cell hg4 3
      have d4 : w4.cell? ⟨wr.heap.size, 4, none⟩ = some (.int .i64 es') := blk_cell hg4 4
      have C4 := numbers_any w4 ek ed et ea es'
      have HW4 := Lib.hid hw4
      have HG4 := Lib.hid hg4
      have HB4 := Lib.hid hb4
      clear hw4 hwr4 hg4 hb4 HW3 HG3 HB3
      go_wp2_with fail
      refine C4.mono ?_
      rintro e w5 ⟨rfl, hb45⟩
      clear C4 d0 d1 d2 d3 d4
      have hw5 : Wr w5 w.heap.size w.heap.size v4 (acc ++ uvar k1 ++ (uvar (ek.size - k1) ++ ek.data.toList.drop k1)) := HW4.out.eff (Eff.of_below hb45 (fun _ => False)) (fun _ _ f => f)
      have hg5 := (hb45.block wr.heap.size (lt_of_heap HG4.out)).trans HG4.out
      have hb5 : Below w.heap.size w w5 := HB4.out.trans (hb45.mono HB4.out.size)
      have htot5 : (acc ++ uvar k1 ++ (uvar (ek.size - k1) ++ ek.data.toList.drop k1)) ++ (numsB (([ed, et, ea, es'] : List Int).drop 0) ++ blkB ek.data.toList (es.drop (i + 1))) = blkB [] es := by
        rw [← HTOT.out]; simp only [List.append_assoc, List.drop_zero]
      have HW5 := Lib.hid hw5
      have HG5 := Lib.hid hg5
      have HB5 := Lib.hid hb5
      have HT5 := Lib.hid htot5
      clear hw5 hg5 hb5 htot5 hb45
      go_wp2
      obtain ⟨wo, rfl⟩ : ∃ wo : World, wo = wr := ⟨_, rfl⟩
      go_loopw [33] (fun s33 wr => ∃ (k : Nat) (v : Value) (acc : List UInt8), s33 = .int .i64 k ∧ k ≤ 4 ∧ Wr wr w.heap.size w.heap.size v acc ∧ wr.heap[wo.heap.size]? = some (.cells #[.string ek, .int .i64 ed, .int .i64 et, .int .i64 ea, .int .i64 es'] 116 (0, 0)) ∧ Below w.heap.size w wr ∧ acc ++ (numsB (([ed, et, ea, es'] : List Int).drop k) ++ blkB ek.data.toList (es.drop (i + 1))) = blkB [] es) (fun s33 _ => 4 - (intOf s33).toNat)
      case atStart => exact ⟨0, v4, _, rfl, Nat.zero_le _, HW5.out, HG5.out, HB5.out, HT5.out⟩
      case round =>
        clear HW5 HG5 HB5 HT5 HW4 HG4 HB4 HTOT
        obtain ⟨k, v6, acc6, rfl, hk4, hw6, hg6, hb6, htot6⟩ := hrel
        have hal6 : acc6.length ≤ 1000000000 := by have := congrArg List.length htot6; rw [List.length_append] at this; have := HT.out; omega
        by_cases hk : k < 4
        · have hix := idx4 ed et ea es' k hk
          have hnx := HNUM.out k
          rw [nums_drop ed et ea es' k hk] at htot6
          obtain ⟨x, hx⟩ : ∃ x, num4 ed et ea es' k = x := ⟨_, rfl⟩
          rw [hx] at hix hnx htot6
          have hxn : ((x.toNat : Nat) : Int) = x := by omega
          have C6 := wuv_any wr w.heap.size w.heap.size v6 acc6 hw6 hb6.size (by omega) x.toNat (by omega)
          rw [hxn] at C6
          have ik : (k : Int) < 4 := by omega
          have htot7 : (acc6 ++ uvar x.toNat) ++ (numsB (([ed, et, ea, es'] : List Int).drop (k + 1)) ++ blkB ek.data.toList (es.drop (i + 1))) = blkB [] es := by
            rw [← htot6]; simp [numsB]
          have HT7 := Lib.hid htot7
          have HW6 := Lib.hid hw6
          have HG6 := Lib.hid hg6
          have HB6 := Lib.hid hb6
          clear htot6 htot7 hw6 hg6 hb6 hx hxn
          go_wp2_with fail
          refine C6.mono ?_
          rintro e w7 ⟨rfl, v7, hw7, hwr7⟩
          clear C6
          have hg7 := (hwr7.eff.block wo.heap.size (lt_of_heap HG6.out) (HW6.out.ne_box HG6.out)).trans HG6.out
          have hb7 : Below w.heap.size w w7 := HB6.out.trans (hwr7.below HW6.out HB6.out.size)
          have HW7 := Lib.hid hw7
          have HG7 := Lib.hid hg7
          have HB7 := Lib.hid hb7
          clear hw7 hg7 hb7 hwr7 hix
          go_wp2
          go_roundw
          case rel => exact ⟨k + 1, v7, _, by go_num, by omega, HW7.out, HG7.out, HB7.out, HT7.out⟩
          case measure => simp [intOf]; omega
        · have hk4' : k = 4 := by omega
          have htot7 : acc6 ++ blkB ek.data.toList (es.drop (i + 1)) = blkB [] es := by rw [← htot6, hk4']; rfl
          have ik : decide ((k : Int) < 4) = false := decide_eq_false (by omega)
          have g0 : wr.cell? ⟨wo.heap.size, 0, none⟩ = some (.string ek) := blk_cell hg6 0
          have HT7 := Lib.hid htot7
          have HW6 := Lib.hid hw6
          have HB6 := Lib.hid hb6
          clear htot6 htot7 hw6 hg6 hb6 hk4' hk
          go_wp2
          go_roundw
          case rel => exact ⟨i + 1, ek, v6, acc6, rfl, by go_num, by omega, HW6.out, HT7.out, hekl, HB6.out⟩
          case measure => simp [intOf]; omega
    · have hin : es.drop i = [] := List.drop_eq_nil_of_le (by omega)
      have hacc : acc = blkB [] es := by rw [← htot, hin]; simp [blkB]
      have C1 := wbytes_any wr w.heap.size w.heap.size v acc hw hal
      have hl : decide (i < es.length) = false := decide_eq_false hlt
      rw [hacc] at C1
      have HB := Lib.hid hb
      clear htot hin hacc hw hb hlt hal
      go_wp2_with fail
      refine C1.mono ?_
      rintro e w2 ⟨v', rfl, ho, hb2⟩
      have ho2 := own_base ho hz
      have HO := Lib.hid ho2
      have HB2 := Lib.hid (HB.out.trans (hb2.mono hz))
      clear ho ho2 hb2 C1
      go_wp2
      go_ret
      exact ⟨_, rfl, HO.out, HB2.out⟩
end Go.Proofs.YtejmjjgbbojfbaaDoor

/- codec.Reader: its memory; NewReader, At, Left, Uvarint. -/
namespace Go.Proofs.YtejmjjgbbojfbaaDoor
set_option linter.unusedVariables false
open Go.ChangeShapes Go.WideShapes Go.ChangeAt Go.RowKit

/-- A Reader at block p over bs, at the place k. -/
structure Rdr (w : World) (base p : Nat) (v : Value) (bs : List UInt8) (k : Nat) : Prop where
  blk : w.heap[p]? = some (.cells #[.int .i64 k, .int .i64 bs.length, v] 173 (0, 0))
  hp : base ≤ p
  own : Own w base 5 v (bytesV bs)
  le : k ≤ bs.length
  sm : bs.length ≤ 1000000000
theorem Rdr.drewN {w : World} {base p : Nat} {v : Value} {bs : List UInt8} {k : Nat} (h : Rdr w base p v bs k) (d : Nat) : Rdr (w.drewN d) base p v bs k := ⟨h.blk, h.hp, h.own.drewN d, h.le, h.sm⟩
theorem Rdr.c0 {w : World} {base p : Nat} {v : Value} {bs : List UInt8} {k : Nat} (h : Rdr w base p v bs k) : w.cell? ⟨p, 0, none⟩ = some (.int .i64 k) := blk_cell h.blk 0
theorem Rdr.c1 {w : World} {base p : Nat} {v : Value} {bs : List UInt8} {k : Nat} (h : Rdr w base p v bs k) : w.cell? ⟨p, 1, none⟩ = some (.int .i64 bs.length) := blk_cell h.blk 1
theorem Rdr.c2 {w : World} {base p : Nat} {v : Value} {bs : List UInt8} {k : Nat} (h : Rdr w base p v bs k) : w.cell? ⟨p, 2, none⟩ = some v := blk_cell h.blk 2
theorem Rdr.fz {w : World} {base p : Nat} {v : Value} {bs : List UInt8} {k : Nat} (h : Rdr w base p v bs k) (i : Nat) : w.frozen? ⟨p, i, none⟩ = false := blk_frozen h.blk i
/-- The Reader moved. -/
theorem Rdr.move {w : World} {base p : Nat} {v : Value} {bs : List UInt8} {k : Nat} (h : Rdr w base p v bs k) (j : Nat) (hj : j ≤ bs.length) : Rdr (w.setCell ⟨p, 0, none⟩ (.int .i64 (j : Nat))) base p v bs j :=
  ⟨blk_set h.blk 0 _, h.hp, h.own.setOther (h.own.ne_type h.blk (by decide)) _, hj, h.sm⟩
/-- A byte of a Reader's. -/
theorem Rdr.byte {w : World} {base p : Nat} {a : Option Addr} {n c : Nat} {bs : List UInt8} {k : Nat} (h : Rdr w base p (.slice a n c) bs k) (j : Nat) (hj : j < bs.length) : ∃ g, a = some ⟨g, 0, none⟩ ∧ n = bs.length ∧ w.cell? ⟨g, j, none⟩ = some (.int .u8 (bs[j].toNat : Nat)) := by
  have hl := h.own.len
  rw [bytesV_length] at hl
  obtain ⟨g, rfl⟩ := h.own.someAt (by omega)
  exact ⟨g, rfl, hl, h.own.get (bytesV_get bs j hj)⟩
/-- The blocks of a Reader. -/
def RdrB (p : Nat) (v : Value) (k : Nat) : Prop := k = p ∨ v.ownBlock = some k
theorem Rdr.eff {F : Nat → Prop} {w w' : World} {base p : Nat} {v : Value} {bs : List UInt8} {k : Nat} (h : Rdr w base p v bs k) (e : Eff F w w') (hF : ∀ k, RdrB p v k → ¬ F k) : Rdr w' base p v bs k :=
  ⟨(e.block p (lt_of_heap h.blk) (hF p (.inl rfl))).trans h.blk, h.hp, h.own.eff e (fun k hk => hF k (.inr hk)), h.le, h.sm⟩
theorem Rdr.ge {w : World} {base p : Nat} {v : Value} {bs : List UInt8} {k : Nat} (h : Rdr w base p v bs k) : ∀ k, RdrB p v k → base ≤ k ∧ k < w.heap.size := by
  rintro k (rfl | hk)
  · exact ⟨h.hp, lt_of_heap h.blk⟩
  · exact h.own.lt k hk

theorem rat_any (w : World) (base p : Nat) (v : Value) (bs : List UInt8) (k : Nat) (h : Rdr w base p v bs k) : Calls Tryd.prog 84 #[.pointer (some ⟨p, 0, none⟩)] w fun e w' => e = .returned (.int .i64 (k : Nat)) ∧ w = w' := by
  have hc := h.c0
  go_enter Tryd.func84, Tryd.ntmps84
  go_wp2
  go_ret
  exact ⟨rfl, rfl⟩
theorem rleft_any (w : World) (base p : Nat) (v : Value) (bs : List UInt8) (k : Nat) (h : Rdr w base p v bs k) : Calls Tryd.prog 83 #[.pointer (some ⟨p, 0, none⟩)] w fun e w' => e = .returned (.int .i64 ((bs.length : Int) - (k : Int))) ∧ ∃ d, w' = w.drewN d := by
  have hc := h.c0
  have hd := h.c1
  have hl := h.le
  have hs := h.sm
  have q1 : IntKind.i64.wrap ((bs.length : Int) - (k : Int)) = (bs.length : Int) - (k : Int) := IntWalk.i64_in _ (by omega)
  go_enter Tryd.func83, Tryd.ntmps83
  go_wp2
  go_quiet (fail)
  go_wp2
  go_ret
  exact ⟨rfl, _, rfl⟩

set_option maxRecDepth 100000 in
theorem nr_any (w : World) (a : Option Addr) (n c : Nat) (bs : List UInt8) (hr : Rd w (.slice a n c) (bytesV bs)) (hn : bs.length ≤ 1000000000) :
    Calls Tryd.prog 75 #[.slice a n c] w fun e w' => ∃ p v, e = .returned (.pointer (some ⟨p, 0, none⟩)) ∧ Rdr w' w.heap.size p v bs 0 ∧ Below w.heap.size w w' := by
  have hnl : n = bs.length := by obtain ⟨A, c', h, _⟩ := hr; injection h with _ h _; rw [h, bytesV_length]
  subst hnl
  have hB0 : Below w.heap.size w (w.alloc (.cells #[.slice a bs.length c] 26)) := (Below.refl _ _).alloc (Nat.le_refl _) _
  have hr1 := hr.below hB0 (Nat.le_refl _)
  have hls : Rd (w.alloc (.cells #[.slice a bs.length c] 26)) (.slice (some ⟨w.heap.size, 0, none⟩) 1 1) [.slice a bs.length c] := (own_one w w.heap.size 26 _ (Nat.le_refl _)).rd
  have hBs : Rds (w.alloc (.cells #[.slice a bs.length c] 26)) [.slice a bs.length c] (fun _ => bs) := fun k x hx => by
    match k, hx with
    | 0, hx => simp at hx; subst hx; exact hr1
    | k + 1, hx => simp at hx
  have hcl : catL (fun _ => bs) 1 = bs := by simp [catL]
  have C1 := cat_any _ _ 1 1 _ _ hls hBs (by simp) (by simpa [hcl] using hn)
  rw [show [Value.slice a bs.length c].length = 1 from rfl, hcl] at C1
  have HB := Lib.hid hB0
  clear hr hr1 hls hBs hcl hB0
  go_enter Tryd.func75, Tryd.ntmps75
  go_wp2_with fail
  refine C1.mono ?_
  rintro e w1 ⟨v, rfl, ho, hb⟩
  clear C1
  obtain ⟨a1, n1, c1, rfl⟩ := own_sl ho
  have hb1 := HB.out.trans (hb.mono (by simp))
  have hsz := hb1.size
  have ho1 := (own_base ho (base' := w.heap.size) (by simp)).alloc (.cells #[.int .i64 0, .int .i64 bs.length, .slice a1 n1 c1] 173)
  have hb2 := hb1.alloc hsz (.cells #[.int .i64 0, .int .i64 bs.length, .slice a1 n1 c1] 173)
  have hp : (w1.alloc (.cells #[.int .i64 0, .int .i64 bs.length, .slice a1 n1 c1] 173)).heap[w1.heap.size]? = some (.cells #[.int .i64 0, .int .i64 bs.length, .slice a1 n1 c1] 173 (0, 0)) := heap_alloc_new w1 _
  have HR := Lib.hid (show Rdr _ w.heap.size w1.heap.size (.slice a1 n1 c1) bs 0 from ⟨hp, hsz, ho1, Nat.zero_le _, hn⟩)
  clear hp ho1
  go_wp2
  go_ret
  exact ⟨_, _, rfl, HR.out, hb2⟩

theorem and127 (m : Nat) (h : m < 256) : bits .and .u8 (m : Int) 127 = ((m % 128 : Nat) : Int) := by
  rw [show (127 : Int) = ((127 : Nat) : Int) from rfl, u8_and_nat _ _ h (by decide)]
  rw [show (127 : Nat) = 2 ^ 7 - 1 from rfl, Nat.and_two_pow_sub_one_eq_mod]
theorem or_uv (u i m : Nat) (hu : u < 2 ^ (7 * i)) (hi : i ≤ 9) (hm : m < 256) (h9 : ¬ (i = 9 ∧ 1 < m)) (h128 : i = 9 → m < 128) :
    bits .or .u64 (u : Int) (IntKind.u64.wrap (IntKind.u64.wrap (bits .and .u8 (m : Int) 127) * 2 ^ (7 * i))) = ((u + m % 128 * 2 ^ (7 * i) : Nat) : Int) ∧ u + m % 128 * 2 ^ (7 * i) < 2 ^ (7 * (i + 1)) ∧ u + m % 128 * 2 ^ (7 * i) < 2 ^ 64 := by
  have e2 : 2 ^ (7 * (i + 1)) = 2 ^ (7 * i) * 128 := by rw [show 7 * (i + 1) = 7 * i + 7 by omega, Nat.pow_add]
  have hp : m % 128 < 128 := Nat.mod_lt _ (by decide)
  have h1 : (m % 128 + 1) * 2 ^ (7 * i) ≤ 128 * 2 ^ (7 * i) := Nat.mul_le_mul_right _ hp
  rw [Nat.add_mul, Nat.one_mul] at h1
  have h2 : u + m % 128 * 2 ^ (7 * i) < 2 ^ 64 := by
    rcases Nat.lt_or_ge i 9 with h3 | h3
    · have : 2 ^ (7 * i) ≤ 2 ^ 56 := Nat.pow_le_pow_right (by decide) (by omega)
      omega
    · have h4 : i = 9 := by omega
      subst h4
      have h5 : m % 128 ≤ 1 := by
        rcases Nat.lt_or_ge 1 m with h6 | h6
        · exact absurd ⟨rfl, h6⟩ h9
        · omega
      have := Nat.mul_le_mul_right (2 ^ (7 * 9)) h5
      omega
  refine ⟨?_, by omega, h2⟩
  rw [and127 m hm]
  have e3 : IntKind.u64.wrap ((m % 128 : Nat) : Int) = ((m % 128 : Nat) : Int) := by rw [IntKind.wrap_u64]; omega
  have e4 : ((m % 128 : Nat) : Int) * 2 ^ (7 * i) = ((m % 128 * 2 ^ (7 * i) : Nat) : Int) := by simp
  obtain ⟨Y, hY⟩ : ∃ Y, m % 128 * 2 ^ (7 * i) = Y := ⟨_, rfl⟩
  have e5 : u ||| m % 128 * 2 ^ (7 * i) = u + m % 128 * 2 ^ (7 * i) := or_add _ _ _ hu
  rw [e3, e4]
  rw [hY] at h2 e5 ⊢
  rw [show IntKind.u64.wrap ((Y : Nat) : Int) = (Y : Int) by rw [IntKind.wrap_u64]; omega, u64_or_nat _ _ (by omega) (by omega), e5]
theorem ret_num2 {k : IntKind} {a b : Int} {v : Value} (h : a = b) : Ending.returned (.tuple #[.int k a, v]) = .returned (.tuple #[.int k b, v]) := by rw [h]
/-- What Uvarint answers and leaves. -/
def UvPost (w : World) (base p : Nat) (v : Value) (bs : List UInt8) (k : Nat) (EV : Nat → Value) (e : Ending) (w' : World) : Prop :=
  (∀ n, getU (bs.drop k) = .error n → e = .returned (.tuple #[.int .u64 0, EV n]) ∧ ∃ d, w' = w.drewN d) ∧
  (∀ u n, getU (bs.drop k) = .ok (u, n) → e = .returned (.tuple #[.int .u64 (u : Nat), .nilIface]) ∧ Rdr w' base p v bs (k + n) ∧ Eff (· = p) w w')

set_option maxRecDepth 100000 in
set_option maxHeartbeats 2000000 in
theorem ruv_any (w : World) (base p : Nat) (v : Value) (bs : List UInt8) (k : Nat) (h : Rdr w base p v bs k) (EV : Nat → Value) (hS : w.cell? ⟨3, 0, none⟩ = some (EV 1)) (hV : w.cell? ⟨4, 0, none⟩ = some (EV 2)) :
    Calls Tryd.prog 94 #[.pointer (some ⟨p, 0, none⟩)] w (UvPost w base p v bs k EV) := by
  have hkl := h.le
  have hsm := h.sm
  go_enter Tryd.func94, Tryd.ntmps94
  go_wp2
  go_loopw [4, 5] (fun s4 s5 wr => ∃ (i u d : Nat), s5 = .int .i64 i ∧ s4 = .int .u64 u ∧ i ≤ 9 ∧ k + i ≤ bs.length ∧ u < 2 ^ (7 * i) ∧ rdU i u (bs.drop (k + i)) = getU (bs.drop k) ∧ wr = w.drewN d) (fun _ s _ => 10 - (intOf s).toNat)
  case atStart => exact ⟨0, 0, 0, rfl, rfl, by omega, by omega, by decide, rfl, rfl⟩
  case round =>
    obtain ⟨i, u, d, rfl, rfl, hi, hki, hu, hres, rfl⟩ := hrel
    have hh := h.drewN d
    have hc0 := hh.c0
    have hc2 := hh.c2
    have hq := rleft_any _ base p v bs k hh
    have HRES := Lib.hid hres
    clear hres
    by_cases hlt : k + i < bs.length
    · obtain ⟨av, nv, cv, rfl⟩ := own_sl h.own
      obtain ⟨g, rfl, rfl, hcb0⟩ := hh.byte (k + i) hlt
      have HCB := Lib.hid ((show Rdr w base p (.slice (some ⟨g, 0, none⟩) bs.length cv) bs k from h).own.get (bytesV_get bs (k + i) hlt))
      have hdr : bs.drop (k + i) = bs[k + i] :: bs.drop (k + (i + 1)) := by rw [List.drop_eq_getElem_cons hlt]; rfl
      obtain ⟨x, hx⟩ : ∃ x, bs[k + i] = x := ⟨_, rfl⟩
      rw [hx] at hcb0 hdr HCB
      have hres := HRES.out
      rw [hdr] at hres
      have HRX := Lib.hid hres
      have hx256 := x.toNat_lt
      obtain ⟨m, hm⟩ : ∃ m, x.toNat = m := ⟨_, rfl⟩
      rw [hm] at hcb0 hx256 HCB
      have HM := Lib.hid hm
      clear hdr hx hres hm HRES hcb0
      go_wp2_with fail
      refine hq.mono ?_
      rintro e w' ⟨rfl, d2, rfl⟩
      rw [World.drewN_drewN]
      clear hq hc0 hc2 hh
      have hc0 := h.c0
      have hc2 := h.c2
      have hcb := HCB.out
      have q0 : decide ((bs.length : Int) - (k : Int) ≤ (i : Int)) = false := by simp; omega
      have q1 : IntKind.i64.wrap ((k : Int) + (i : Int)) = (k : Int) + (i : Int) := IntWalk.i64_in _ (by omega)
      have q2 : 0 ≤ (k : Int) + (i : Int) := by omega
      have q3 : ((k : Int) + (i : Int)).toNat = k + i := by omega
      have q4 : (k : Int) + (i : Int) < (bs.length : Nat) := by omega
      go_wp2
      go_quiet (fail)
      rw [World.drewN_drewN]
      clear hc0 hc2 hcb q0 q1 q2 q3 q4
      by_cases hi9 : i = 9
      · subst hi9
        by_cases h1m : 1 < m
        · have t0 : decide ((1 : Int) < m) = true := by simp; omega
          have hr2 : getU (bs.drop k) = .error 2 := by rw [← HRX.out, rdU, if_pos ⟨rfl, by rw [HM.out]; exact h1m⟩]
          have HR2 := Lib.hid hr2
          clear hr2
          go_wp2
          go_quiet (fail)
          go_wp2
          go_ret2
          exact ⟨fun n hn => by rw [HR2.out] at hn; injection hn with hn; subst hn; exact ⟨rfl, _, by rw [World.drewN_drewN]⟩, fun u n hn => by rw [HR2.out] at hn; cases hn⟩
        · have t0 : decide ((1 : Int) < m) = false := by simp; omega
          have t1 : decide ((128 : Int) ≤ m) = false := by simp; omega
          by_cases hm0 : m = 0
          · subst hm0
            have hr2 : getU (bs.drop k) = .error 2 := by rw [← HRX.out, rdU, HM.out, if_neg (by omega), if_neg (by omega), if_pos ⟨rfl, by omega⟩]
            have HR2 := Lib.hid hr2
            clear hr2
            go_wp2
            go_quiet (fail)
            go_wp2
            go_ret2
            exact ⟨fun n hn => by rw [HR2.out] at hn; injection hn with hn; subst hn; exact ⟨rfl, _, by rw [World.drewN_drewN]⟩, fun u n hn => by rw [HR2.out] at hn; cases hn⟩
          · have t2 : ((m : Int) == 0) = false := by simp; omega
            obtain ⟨o1, o2, o3⟩ := or_uv u 9 m hu hi hx256 (by omega) (fun e => by omega)
            rw [show (2 : Int) ^ (7 * 9) = 9223372036854775808 by decide] at o1
            have HO := Lib.hid o1
            have hr2 : getU (bs.drop k) = .ok (u + m % 128 * 2 ^ (7 * 9), 9 + 1) := by rw [← HRX.out, rdU, HM.out, if_neg (by omega), if_neg (by omega), if_neg (by omega)]
            have HR2 := Lib.hid hr2
            have hc0 := h.c0
            have hf := h.fz 0
            have HMV := Lib.hid ((h.drewN (d + d2 + nq)).move (k + (9 + 1)) (by omega))
            have HEF := Lib.hid (((Eff.refl (· = p) w).drewN (d + d2 + nq)).setCell (p := ⟨p, 0, none⟩) (fun _ => rfl) (.int .i64 ((k + (9 + 1) : Nat) : Int)))
            clear hr2 o1
            go_wp2
            go_ret2
            refine ⟨fun n hn => (by rw [HR2.out] at hn; cases hn), fun u' n hn => ?_⟩
            rw [HR2.out] at hn
            injection hn with hn
            injection hn with hn1 hn2
            subst hn1 hn2
            exact ⟨ret_num2 HO.out, HMV.out, HEF.out⟩
      · have h9 : ¬ (i = 9 ∧ 1 < m) := fun e => hi9 e.1
        have t0 : ((i : Int) == 9) = false := by simp; omega
        by_cases h128 : 128 ≤ m
        · have t1 : decide ((128 : Int) ≤ m) = true := by simp; omega
          obtain ⟨o1, o2, o3⟩ := or_uv u i m hu hi hx256 h9 (fun e => by omega)
          have HO := Lib.hid o1
          have hr2 : rdU (i + 1) (u + m % 128 * 2 ^ (7 * i)) (bs.drop (k + (i + 1))) = getU (bs.drop k) := by rw [← HRX.out, rdU, HM.out, if_neg h9, if_pos h128]
          have HR2 := Lib.hid hr2
          clear hr2 o1
          go_wp2
          go_roundw
          case rel => exact ⟨i + 1, _, _, by go_num, by rw [HO.out], by omega, by omega, o2, HR2.out, rfl⟩
          case measure => simp [intOf]; omega
        · have t1 : decide ((128 : Int) ≤ m) = false := by simp; omega
          by_cases hz : m = 0 ∧ 0 < i
          · obtain ⟨rfl, hi0⟩ := hz
            have t2 : decide ((0 : Int) < i) = true := by simp; omega
            have hr2 : getU (bs.drop k) = .error 2 := by rw [← HRX.out, rdU, HM.out, if_neg h9, if_neg h128, if_pos ⟨rfl, hi0⟩]
            have HR2 := Lib.hid hr2
            clear hr2
            go_wp2
            go_quiet (fail)
            go_wp2
            go_ret2
            exact ⟨fun n hn => by rw [HR2.out] at hn; injection hn with hn; subst hn; exact ⟨rfl, _, by rw [World.drewN_drewN]⟩, fun u n hn => by rw [HR2.out] at hn; cases hn⟩
          · obtain ⟨o1, o2, o3⟩ := or_uv u i m hu hi hx256 h9 (fun e => by omega)
            have HO := Lib.hid o1
            have hr2 : getU (bs.drop k) = .ok (u + m % 128 * 2 ^ (7 * i), i + 1) := by rw [← HRX.out, rdU, HM.out, if_neg h9, if_neg h128, if_neg hz]
            by_cases hm0 : m = 0
            · have hi0 : i = 0 := by omega
              subst hm0 hi0
              have HR2 := Lib.hid hr2
              have hc0 := h.c0
              have hf := h.fz 0
              have HMV := Lib.hid ((h.drewN (d + d2 + nq)).move (k + (0 + 1)) (by omega))
              have HEF := Lib.hid (((Eff.refl (· = p) w).drewN (d + d2 + nq)).setCell (p := ⟨p, 0, none⟩) (fun _ => rfl) (.int .i64 ((k + (0 + 1) : Nat) : Int)))
              clear hr2 o1
              go_wp2
              go_ret2
              refine ⟨fun n hn => (by rw [HR2.out] at hn; cases hn), fun u' n hn => ?_⟩
              rw [HR2.out] at hn
              injection hn with hn
              injection hn with hn1 hn2
              subst hn1 hn2
              exact ⟨ret_num2 HO.out, HMV.out, HEF.out⟩
            · have t2 : ((m : Int) == 0) = false := by simp; omega
              have HR2 := Lib.hid hr2
              have hc0 := h.c0
              have hf := h.fz 0
              have HMV := Lib.hid ((h.drewN (d + d2 + nq)).move (k + (i + 1)) (by omega))
              have HEF := Lib.hid (((Eff.refl (· = p) w).drewN (d + d2 + nq)).setCell (p := ⟨p, 0, none⟩) (fun _ => rfl) (.int .i64 ((k + (i + 1) : Nat) : Int)))
              clear hr2 o1
              go_wp2
              go_ret2
              refine ⟨fun n hn => (by rw [HR2.out] at hn; cases hn), fun u' n hn => ?_⟩
              rw [HR2.out] at hn
              injection hn with hn
              injection hn with hn1 hn2
              subst hn1 hn2
              exact ⟨ret_num2 HO.out, HMV.out, HEF.out⟩
    · have hr2 : getU (bs.drop k) = .error 1 := by rw [← HRES.out, List.drop_eq_nil_of_le (by omega)]; rfl
      have HR2 := Lib.hid hr2
      have q0 : decide ((bs.length : Int) - (k : Int) ≤ (i : Int)) = true := by simp; omega
      clear hr2 HRES
      go_wp2_with fail
      refine hq.mono ?_
      rintro e w' ⟨rfl, d2, rfl⟩
      rw [World.drewN_drewN]
      go_wp2
      go_quiet (fail)
      go_wp2
      go_ret2
      exact ⟨fun n hn => by rw [HR2.out] at hn; injection hn with hn; subst hn; exact ⟨rfl, _, by rw [World.drewN_drewN]⟩, fun u n hn => by rw [HR2.out] at hn; cases hn⟩
end Go.Proofs.YtejmjjgbbojfbaaDoor
