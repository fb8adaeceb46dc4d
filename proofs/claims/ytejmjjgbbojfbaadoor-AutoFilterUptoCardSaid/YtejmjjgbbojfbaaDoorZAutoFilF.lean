/- The walk of the law AutoFilter. -/
import Derived.Test.YtejmjjgbbojfbaaDoorZG29
import Derived.Test.YtejmjjgbbojfbaaDoorZG29
import Derived.Test.YtejmjjgbbojfbaaDoorZG29
import Derived.Test.YtejmjjgbbojfbaaDoorZG23
import Derived.Test.YtejmjjgbbojfbaaDoorZG29
import Derived.Test.YtejmjjgbbojfbaaDoorZTable
namespace Go.Proofs.YtejmjjgbbojfbaaDoor
set_option linter.unusedVariables false
open Go.ChangeShapes Go.WideShapes Go.ChangeAt Go.RowKit

theorem hits_ext (M : Mach) (h : List UInt8) (rows : List ByteArray) (i : Nat) : ∀ n, i ≤ n → ∃ r, hitsP M h rows n = hitsP M h rows i ++ r ∧ ∀ x ∈ r, i ≤ x := by
  intro n hn
  induction hn with
  | refl => exact ⟨[], by simp, fun x hx => by cases hx⟩
  | @step m hm ih =>
    obtain ⟨r, h1, h2⟩ := ih
    have hm : i ≤ m := hm
    have e : hitsP M h rows (m + 1) = hitsP M h rows m ++ (if hitK M h (rows.getD m ⟨#[]⟩).data.toList = true then [m] else []) := by
      unfold hitsP
      rw [List.range_succ, List.filter_append]
      congr 1
      split
      · next h9 => simp only [List.filter_cons, h9, if_true, List.filter_nil]
      · next h9 => simp only [List.filter_cons, h9, List.filter_nil]; rfl
    refine ⟨r ++ (if hitK M h (rows.getD m ⟨#[]⟩).data.toList = true then [m] else []), by rw [e, h1, List.append_assoc], fun x hx => ?_⟩
    rcases List.mem_append.1 hx with hx | hx
    · exact h2 x hx
    · split at hx
      · rw [List.mem_singleton.1 hx]; exact hm
      · cases hx
/-- The hit at a place is the next one told; what is no hit is not told. -/
theorem hits_in {M : Mach} {h : List UInt8} {rows : List ByteArray} {i : Nat} (hi : i < rows.length) (hh : hitK M h rows[i].data.toList = true) : (hitsP M h rows i).length < (hitsP M h rows rows.length).length ∧ (hitsP M h rows rows.length).getD (hitsP M h rows i).length 0 = i := by
  obtain ⟨r, h1, -⟩ := hits_ext M h rows (i + 1) rows.length (by omega)
  rw [hitsP_hit hi hh] at h1
  rw [h1]
  refine ⟨by simp, ?_⟩
  rw [List.append_assoc, List.getD_eq_getElem?_getD, List.getElem?_append_right (Nat.le_refl _)]
  simp
theorem hits_out {M : Mach} {h : List UInt8} {rows : List ByteArray} {i : Nat} (hi : i < rows.length) (hh : hitK M h rows[i].data.toList = false) (hk : (hitsP M h rows i).length < (hitsP M h rows rows.length).length) : (hitsP M h rows rows.length).getD (hitsP M h rows i).length 0 ≠ i := by
  obtain ⟨r, h1, h2⟩ := hits_ext M h rows (i + 1) rows.length (by omega)
  rw [hitsP_no hi hh] at h1
  rw [h1] at hk ⊢
  rw [List.getD_eq_getElem?_getD, List.getElem?_append_right (Nat.le_refl _), Nat.sub_self]
  cases r with
  | nil => simp at hk
  | cons a r =>
    have := h2 a (List.mem_cons_self ..)
    simp only [List.getElem?_cons_zero, Option.getD_some]
    omega
theorem hits_le (M : Mach) (h : List UInt8) (rows : List ByteArray) {i : Nat} (hi : i ≤ rows.length) : (hitsP M h rows i).length ≤ (hitsP M h rows rows.length).length := by
  obtain ⟨r, h1, -⟩ := hits_ext M h rows i rows.length hi
  rw [h1]; simp
/-- Is there a table? In the variable's block lies the least one, or no error is nil. -/
def TFil (M : Mach) (tb : Nat) (E : Value) (W : World) (s : Value) : Prop :=
  (s = E ∧ tb < W.heap.size) ∨ (s = .nilIface ∧ ∃ (B : Nat) (A X : Option Addr) (ca cx : Nat) (T : Tab), W.heap[tb]? = some (.cells #[.int .i64 0, .slice A T.n ca, .slice X (256 * T.n) cx] 54 (0, 0)) ∧ TabAt W B A X ca cx T ∧ Canon T (langM M) ∧ 0 < T.n ∧ T.n ≤ 1024)
/-- What is accepted is alive on the way. -/
theorem alive_take {M : Mach} {s : ByteArray} (h : accM M s.data.toList = true) (j : Nat) : aliveM M (s.extract 0 j).data.toList = true := by
  have e : (s.extract 0 j).data.toList = s.data.toList.take j := by rw [← ba_list, ext_take]
  rw [e]
  refine alive_acc (t := s.data.toList.drop j) ?_
  rw [List.take_append_drop]; exact h
set_option maxRecDepth 100000 in
set_option maxHeartbeats 16000000 in
theorem autofilter_walk (w : World) (o : OfV) (a : Option Addr) (n c : Nat) (ls : List ByteArray) (hr : Rd w (.slice a n c) (strsV ls)) (hn : ls.length ≤ 1000000000) (h : ByteArray) (hh : h.size ≤ 1000000000) (a2 : Option Addr) (n2 c2 : Nat) (ts : List ByteArray) (hr2 : Rd w (.slice a2 n2 c2) (strsV ts)) (hn2 : ts.length ≤ 1000000000)
    (hos : o.s.size ≤ 1048576) (hol : o.ls.size ≤ 1048576) (hoh : o.hs.size ≤ 1048576) (EA : Nat → Addr) (hE : Sent w EA) :
    Calls Tryd.prog 12 #[.agg o.cells.toArray, .slice a n c, .string h, .slice a2 n2 c2] w fun e w' => e = .returned (.bool true) ∧ Below w.heap.size w w' := by
  obtain ⟨ob, hob⟩ : ∃ ob, ob = Obj.cells o.cells.toArray 37 := ⟨_, rfl⟩
  have hb0 : Below w.heap.size w (w.alloc ob) := (Below.refl _ _).alloc (Nat.le_refl _) _
  have hz0 : (w.alloc ob).heap.size = w.heap.size + 1 := by simp
  have hcx : Cells9 (w.alloc ob) w.heap.size o := Cells9.of ((heap_alloc_new w ob).trans (congrArg some hob))
  have C0 := lives_any (w.alloc ob) _ (hE.below hb0).c14
  obtain rfl := (rd_strs hr).1
  obtain rfl := (rd_strs hr2).1
  have HR := Lib.hid (show ∀ X, Below w.heap.size w X → Rd X (.slice a ls.length c) (strsV ls) from fun X e => hr.below e (Nat.le_refl _))
  have HR2 := Lib.hid (show ∀ X, Below w.heap.size w X → Rd X (.slice a2 ts.length c2) (strsV ts) from fun X e => hr2.below e (Nat.le_refl _))
  have HE := Lib.hid (show ∀ X, Below w.heap.size w X → Sent X EA from fun X e => hE.below e)
  have HB0 := Lib.hid hb0
  have HZ0 := Lib.hid hz0
  have HCX := Lib.hid hcx
  have HOB := Lib.hid hob
  clear hr hr2 hE hb0 hz0 hcx hob
  go_enter Tryd.func12, Tryd.ntmps12
  go_upto_region 1 with fail
  rw [← HOB.out]
  clear HOB
  generalize w.alloc ob = W at C0 HB0 HZ0 HCX ⊢
  obtain ⟨z, hz⟩ : ∃ z, z = w.heap.size := ⟨_, rfl⟩
  have HCX : RowKit.Hid (Cells9 W z o) := by rw [hz]; exact HCX
  have hz1 : z < W.heap.size := by rw [hz, HZ0.out]; omega
  rw [← hz]
  have HZ := Lib.hid (show w.heap.size ≤ z by omega)
  clear hz HZ0
  go_upto_region 2 with (with_reducible refine C0.mono ?_; rintro e w1 ⟨rfl, hb1⟩)
  have hcx1 := HCX.out.below hb1 hz1
  have hB1 := HB0.out.trans (hb1.mono HB0.out.size)
  have hz2 := Nat.lt_of_lt_of_le hz1 hb1.size
  have HCX1 := Lib.hid hcx1
  obtain ⟨d0, d1, d2, d3, d4, d5, d6, d7, d8⟩ := hcx1
  have HB1 := Lib.hid hB1
  clear C0 hb1 hB1 hz1 HCX HB0
  by_cases hbig : 2000 < ls.length
  · have i1 : (2000 : Int) < (ls.length : Int) := by omega
    clear hbig
    go_wp2
    go_ret
    exact ⟨rfl, HB1.out⟩
  have i1 : ¬ (2000 : Int) < (ls.length : Int) := by omega
  by_cases hlong : 300 < o.s.size
  · have j1 : (300 : Int) < (o.s.size : Int) := by omega
    clear hlong hbig
    go_wp2
    go_ret
    exact ⟨rfl, HB1.out⟩
  have j1 : ¬ (300 : Int) < (o.s.size : Int) := by omega
  have HSM := Lib.hid hbig
  have C1 := made_any w1 o (by omega) EA (HE.out _ HB1.out)
  clear hbig hlong
  go_wp2_with fail
  refine C1.mono ?_
  rintro e w2 ⟨g1, g2⟩
  clear C1 d0 d1 d2 d3 d4 d5 d6 d7 d8 i1 j1
  by_cases hbad : o.bad = 0
  rotate_left
  · obtain ⟨rfl, hb2⟩ := g2 hbad
    have HB2 := Lib.hid (HB1.out.trans (hb2.mono HB1.out.size))
    clear g1 g2 hbad hb2
    go_wp2
    go_ret
    exact ⟨rfl, HB2.out⟩
  obtain ⟨p, rfl, hp, ha, hb2⟩ := g1 hbad
  have hM := at_mach ha (by omega) (by omega) (by omega)
  have hB2 := HB1.out.trans (hb2.mono HB1.out.size)
  have hcx2 := HCX1.out.below hb2 hz2
  have hz3 : z < w2.heap.size := Nat.lt_of_lt_of_le hz2 hb2.size
  have HM := Lib.hid hM
  have HB2 := Lib.hid hB2
  have HCX2 := Lib.hid hcx2
  have C2 := opened_any w2 a ls.length c ls (HR.out _ HB2.out) (by have := HSM.out; omega) EA (fun X e => (HE.out _ (HB2.out.trans (e.mono HB2.out.size))).derr)
  clear g1 g2 hbad ha hM hb2 hB2 hz2 HCX1 HB1 hcx2
  go_wp2_with fail
  refine C2.mono ?_
  rintro e w3 ⟨base, q, v, a3, c3, rows, hbase, rfl, hD, hrd, hris, hlens, hrn, hb3⟩
  clear C2
  have hB3 := HB2.out.trans (hb3.mono HB2.out.size)
  have hcx3 := HCX2.out.below hb3 hz3
  have hz4 : z < w3.heap.size := Nat.lt_of_lt_of_le hz3 hb3.size
  have hM3 := HM.out.below hb3
  have hrn2 : rows.length ≤ 2000 := by have := HSM.out; omega
  obtain ⟨es, hes⟩ : ∃ es, entsN rows rows.length = es := ⟨_, rfl⟩
  have hel : es.length = rows.length := by rw [← hes, entsN_length]
  have hks : ∀ (i : Nat) (hi : i < es.length), es[i].k.size ≤ 65 := fun i hi => by
    subst hes
    rw [entsN_get]
    unfold mkE
    rw [entsN_length] at hi
    have h9 := (hlens _ (List.getElem_mem hi)).2
    simpa [List.getD, hi] using h9
  have hri : rising none es := by rw [← hes]; exact ents_rising hris
  have hth : numsL (termsP o.mach h.data.toList es es.length) = hitsP o.mach h.data.toList rows rows.length := by
    rw [← hes, entsN_length]
    exact terms_hits _ _ _
  rw [hes] at hD
  have C3 := walked_any w3 base q v es hD hri (by omega) hks p o.mach hM3 h (-1)
  unfold WalkedPost at C3
  rw [stopL_no, hth] at C3
  obtain ⟨M, hMe⟩ : ∃ M, o.mach = M := ⟨_, rfl⟩
  rw [hMe] at C3 hM3
  obtain ⟨H, hH⟩ : ∃ H, hitsP M h.data.toList rows rows.length = H := ⟨_, rfl⟩
  rw [hH] at C3
  have hHl : H.length ≤ 2000 := by rw [← hH]; exact Nat.le_trans (hitsP_len _ _ _ _) hrn2
  have HH := Lib.hid hH
  have HB3 := Lib.hid hB3
  have HCX3 := Lib.hid hcx3
  have HRD := Lib.hid hrd
  have HLN := Lib.hid hlens
  have HM3 := Lib.hid hM3
  clear hB3 hcx3 hrd hlens hM3 hD hris hb3 hes hel hks hri hth hMe hH HM HCX2 HB2 hz3
  go_wp2_with fail
  refine C3.mono ?_
  rintro e w6 ⟨A6, D6, rfl, ho6, hb6⟩
  have HB6 := Lib.hid (HB3.out.trans (hb6.mono HB3.out.size))
  have HCX6 := Lib.hid (HCX3.out.below hb6 hz4)
  have hz6 : z < w6.heap.size := Nat.lt_of_lt_of_le hz4 hb6.size
  have HRD6 := Lib.hid (HRD.out.below hb6 (Nat.le_refl _))
  have HM6 := Lib.hid (HM3.out.below hb6)
  have HO6 := Lib.hid ho6
  clear C3 hb6 ho6 HB3 HCX3 HRD HM3 hz4
  go_wp2
  go_loopw [15, 70] (fun s15 s70 wr => ∃ i : Nat, s70 = .int .i64 i ∧ i ≤ rows.length ∧ s15 = .int .i64 ((hitsP M h.data.toList rows i).length : Nat) ∧ Below w6.heap.size w6 wr) (fun _ s70 _ => rows.length - (intOf s70).toNat)
  case atStart => exact ⟨0, rfl, Nat.zero_le _, rfl, Below.refl _ _⟩
  case round =>
    obtain ⟨i, rfl, hi, rfl, hb⟩ := hrel
    have hkl := hits_le M h.data.toList rows hi
    rw [HH.out] at hkl
    obtain ⟨k, hk⟩ : ∃ k, (hitsP M h.data.toList rows i).length = k := ⟨_, rfl⟩
    rw [hk] at hkl ⊢
    by_cases hlt : i < rows.length
    · obtain ⟨b, qo, hav, hc⟩ := (rd_strs (HRD6.out.below hb (Nat.le_refl _))).2 i hlt
      subst hav
      have hks := (HLN.out _ (List.getElem_mem hlt)).2
      have hin := hits_in (M := M) (h := h.data.toList) hlt
      have hout := hits_out (M := M) (h := h.data.toList) hlt
      have hhit := hitsP_hit (M := M) (h := h.data.toList) hlt
      have hno := hitsP_no (M := M) (h := h.data.toList) hlt
      rw [HH.out, hk] at hin hout
      obtain ⟨x, hx⟩ : ∃ x, rows[i] = x := ⟨_, rfl⟩
      rw [hx] at hc hks hin hout hhit hno
      have hbp := begB_pre x h
      have i1 : (i : Int) < (rows.length : Int) := by omega
      have w2 : IntKind.i64.wrap ((i : Int) + 1) = ((i + 1 : Nat) : Int) := by rw [IntKind.wrap_i64]; omega
      have w3 : IntKind.i64.wrap ((k : Int) + 1) = ((k + 1 : Nat) : Int) := by rw [IntKind.wrap_i64]; omega
      have HB := Lib.hid hb
      have HLT := Lib.hid hlt
      have HKL := Lib.hid hkl
      have HK := Lib.hid hk
      clear hb hlt hkl hk hi hx
      -- no hit
      have hNO : ∀ (G : hitK M h.data.toList x.data.toList = false), (∃ t : Bool, (t = false) ∧ (k < H.length → ((H.getD k 0 : Nat) : Int) ≠ (i : Int)) ∧ (hitsP M h.data.toList rows (i + 1)).length = k) := fun G => ⟨false, rfl, fun g e => hout G g (by omega), by rw [hno G]; exact HK.out⟩
      have HNO := Lib.hid hNO
      have HIN := Lib.hid (show hitK M h.data.toList x.data.toList = true → k < H.length ∧ H.getD k 0 = i ∧ (hitsP M h.data.toList rows (i + 1)).length = k + 1 from fun G => ⟨(hin G).1, (hin G).2, by rw [hhit G, List.length_append, HK.out]; rfl⟩)
      clear hNO hin hout hhit hno
      by_cases hsz : h.size ≤ x.size
      · by_cases heq : ((x.extract 0 h.size).toList == h.toList) = true
        · have hpre : begB x h = true := by unfold begB; rw [heq, decide_eq_true hsz]; rfl
          have hdr : (x.extract h.size x.size).data.toList = x.data.toList.drop h.data.toList.length := by
            rw [show h.data.toList.length = h.size from Array.length_toList (xs := h.data)]
            have h1 : x.data.toList.length = x.size := Array.length_toList (xs := x.data)
            have h2 : (x.extract h.size x.size).data.toList = (x.data.toList.drop h.size).take (x.size - h.size) := by
              rw [ByteArray.data_extract]; simp
            rw [h2, List.take_of_length_le (by rw [List.length_drop]; omega)]
          have hhk : hitK M h.data.toList x.data.toList = accM M (x.extract h.size x.size).data.toList := by
            unfold hitK; rw [← hbp, hpre, Bool.true_and, hdr]
          have C4 := accepts_any wr p M (HM6.out.below HB.out) (x.extract h.size x.size) (by rw [ByteArray.size_extract]; omega)
          have m1 : (h.size : Int) ≤ (x.size : Int) := by omega
          have HHK := Lib.hid hhk
          obtain ⟨ac, hac⟩ : ∃ ac, accM M (x.extract h.size x.size).data.toList = ac := ⟨_, rfl⟩
          rw [hac] at C4
          have HAC := Lib.hid hac
          clear hpre hdr hhk hbp hac
          go_upto_region 17 with fail
          go_wp2_with fail
          refine C4.mono ?_
          rintro e w7 ⟨rfl, hb7⟩
          have HB7 := Lib.hid (HB.out.trans (hb7.mono HB.out.size))
          clear C4 hb7 hc
          cases ac with
          | true =>
            obtain ⟨g1, g2, g3⟩ := HIN.out (HHK.out.trans HAC.out)
            obtain ⟨gb, rfl⟩ := HO6.out.someAt (by omega)
            have y1 := (HO6.out.below HB7.out (Nat.le_refl _)).get (natsV_get g1)
            have e1 : H[k] = i := by rw [← g2]; simp [List.getD, g1]
            rw [e1] at y1
            have t1 : decide (k < H.length) = true := decide_eq_true g1
            have k1 : (k : Int) < (H.length : Int) := by omega
            have HG3 := Lib.hid g3
            clear g1 g2 g3 e1 heq hsz
            go_wp2
            go_roundw
            case rel => exact ⟨i + 1, by first | rfl | rw [w2], by have := HLT.out; omega, by rw [HG3.out]; first | rfl | (exact congrArg _ w3) | (exact congrArg _ w3.symm), HB7.out⟩
            case measure => have := HLT.out; simp [intOf]; omega
          | false =>
            obtain ⟨t, ht, g1, g3⟩ := HNO.out (by first | exact HHK.out.trans HAC.out | exact HHK.out)
            have HG3 := Lib.hid g3
            clear ht heq hsz
            by_cases hkh : k < H.length
            · obtain ⟨gb, rfl⟩ := HO6.out.someAt (by omega)
              have y1 := (HO6.out.below HB7.out (Nat.le_refl _)).get (natsV_get hkh)
              have e1 : H.getD k 0 = H[k] := by simp [List.getD, hkh]
              have g1 := g1 hkh
              rw [e1] at g1
              obtain ⟨hv, hhv⟩ : ∃ hv, H[k] = hv := ⟨_, rfl⟩
              rw [hhv] at g1 y1
              have t1 : decide (k < H.length) = true := decide_eq_true hkh
              have k1 : (k : Int) < (H.length : Int) := by omega
              have t2 : ((hv : Int) == (i : Int)) = false := by simpa using g1
              clear hkh e1 g1 hhv g3
              go_wp2
              go_roundw
              case rel => exact ⟨i + 1, by first | rfl | rw [w2], by have := HLT.out; omega, by rw [HG3.out], HB7.out⟩
              case measure => have := HLT.out; simp [intOf]; omega
            · have t1 : decide (k < H.length) = false := decide_eq_false hkh
              clear hkh g1 g3
              go_wp2
              go_roundw
              case rel => exact ⟨i + 1, by first | rfl | rw [w2], by have := HLT.out; omega, by rw [HG3.out], HB7.out⟩
              case measure => have := HLT.out; simp [intOf]; omega
        · have heq : ((x.extract 0 h.size).toList == h.toList) = false := by simpa using heq
          have hpre : begB x h = false := by unfold begB; rw [heq, Bool.and_false]
          have hG : hitK M h.data.toList x.data.toList = false := by unfold hitK; rw [← hbp, hpre]; rfl
          have HHK := Lib.hid hG
          have HAC := Lib.hid (show false = false from rfl)
          have m1 : (h.size : Int) ≤ (x.size : Int) := by omega
          clear hpre hG hbp
          go_upto_region 17 with fail
          obtain ⟨t, ht, g1, g3⟩ := HNO.out (by first | exact HHK.out.trans HAC.out | exact HHK.out)
          have HG3 := Lib.hid g3
          clear ht heq hsz
          by_cases hkh : k < H.length
          · obtain ⟨gb, rfl⟩ := HO6.out.someAt (by omega)
            have y1 := (HO6.out.below HB.out (Nat.le_refl _)).get (natsV_get hkh)
            have e1 : H.getD k 0 = H[k] := by simp [List.getD, hkh]
            have g1 := g1 hkh
            rw [e1] at g1
            obtain ⟨hv, hhv⟩ : ∃ hv, H[k] = hv := ⟨_, rfl⟩
            rw [hhv] at g1 y1
            have t1 : decide (k < H.length) = true := decide_eq_true hkh
            have k1 : (k : Int) < (H.length : Int) := by omega
            have t2 : ((hv : Int) == (i : Int)) = false := by simpa using g1
            clear hkh e1 g1 hhv g3
            go_wp2
            go_roundw
            case rel => exact ⟨i + 1, by first | rfl | rw [w2], by have := HLT.out; omega, by rw [HG3.out], HB.out⟩
            case measure => have := HLT.out; simp [intOf]; omega
          · have t1 : decide (k < H.length) = false := decide_eq_false hkh
            clear hkh g1 g3
            go_wp2
            go_roundw
            case rel => exact ⟨i + 1, by first | rfl | rw [w2], by have := HLT.out; omega, by rw [HG3.out], HB.out⟩
            case measure => have := HLT.out; simp [intOf]; omega
      · have hpre : begB x h = false := by unfold begB; rw [decide_eq_false hsz]; rfl
        have hG : hitK M h.data.toList x.data.toList = false := by unfold hitK; rw [← hbp, hpre]; rfl
        have HHK := Lib.hid hG
        have HAC := Lib.hid (show false = false from rfl)
        have heq : True := trivial
        have t0 : decide (h.size ≤ x.size) = false := decide_eq_false hsz
        clear hpre hG hbp
        go_upto_region 17 with fail
        obtain ⟨t, ht, g1, g3⟩ := HNO.out (by first | exact HHK.out.trans HAC.out | exact HHK.out)
        have HG3 := Lib.hid g3
        clear ht heq hsz
        by_cases hkh : k < H.length
        · obtain ⟨gb, rfl⟩ := HO6.out.someAt (by omega)
          have y1 := (HO6.out.below HB.out (Nat.le_refl _)).get (natsV_get hkh)
          have e1 : H.getD k 0 = H[k] := by simp [List.getD, hkh]
          have g1 := g1 hkh
          rw [e1] at g1
          obtain ⟨hv, hhv⟩ : ∃ hv, H[k] = hv := ⟨_, rfl⟩
          rw [hhv] at g1 y1
          have t1 : decide (k < H.length) = true := decide_eq_true hkh
          have k1 : (k : Int) < (H.length : Int) := by omega
          have t2 : ((hv : Int) == (i : Int)) = false := by simpa using g1
          clear hkh e1 g1 hhv g3
          go_wp2
          go_roundw
          case rel => exact ⟨i + 1, by first | rfl | rw [w2], by have := HLT.out; omega, by rw [HG3.out], HB.out⟩
          case measure => have := HLT.out; simp [intOf]; omega
        · have t1 : decide (k < H.length) = false := decide_eq_false hkh
          clear hkh g1 g3
          go_wp2
          go_roundw
          case rel => exact ⟨i + 1, by first | rfl | rw [w2], by have := HLT.out; omega, by rw [HG3.out], HB.out⟩
          case measure => have := HLT.out; simp [intOf]; omega
    · obtain rfl : i = rows.length := by omega
      have hkH : k = H.length := by rw [← hk, HH.out]
      subst hkH
      have i1 : ¬ (rows.length : Int) < (rows.length : Int) := by omega
      have t1 : (((H.length : Nat) : Int) != ((H.length : Nat) : Int)) = false := by simp
      have HBW := Lib.hid (HB6.out.trans (hb.mono HB6.out.size))
      have HB := Lib.hid hb
      have HCX7 := Lib.hid (HCX6.out.below hb hz6)
      have HM7 := Lib.hid (HM6.out.below hb)
      have hz7 : z < wr.heap.size := Nat.lt_of_lt_of_le hz6 hb.size
      clear hb hk hkl hlt hi HRD6 HO6 HCX6 HM6 HLN
      go_upto_region 25 with fail
      clear i1 t1
      have hS0 : wr.drew.cell? ⟨0, 0, none⟩ = some (errV EA 15) := (HE.out _ HBW.out).c15
      have hbd : Below wr.heap.size wr wr.drew := (Below.refl _ _).drew
      have HBR := Lib.hid (show ∀ X, Below wr.heap.size wr X → X.cell? ⟨0, 0, none⟩ = some (errV EA 15) from fun X e => (HE.out _ (HBW.out.trans (e.mono HBW.out.size))).c15)
      refine wp_region_noPanic ?_
      refine wp_region_held_drew (S := fun X => X.cell? ⟨0, 0, none⟩ = some (errV EA 15)) (by kernel_rfl) hS0 (fun hHeld => ?_)
      generalize World.drew wr = X0 at hbd hHeld hS0 ⊢
      have hz0 := hbd.size
      refine wpAnyH_take (i := 0) (v := ?_) rfl (by kernel_rfl) (by kernel_rfl) (by kernel_rfl) (fun _ _ _ h => h) (Or.inl ⟨by kernel_rfl, ?_⟩) hHeld ?_
      rotate_left
      · intro w hSw
        go_simp
        try with_reducible rfl
      refine wpAnyH_take (i := 1) (v := ?_) rfl (by kernel_rfl) (by kernel_rfl) (by kernel_rfl) (fun _ _ _ h => h) (Or.inl ⟨by kernel_rfl, ?_⟩) hHeld ?_
      rotate_left
      · intro w hSw
        go_simp
        try with_reducible rfl
      have hba := hbd.alloc hz0 (.cells #[.int .i64 0, .slice none 0 0, .slice none 0 0] 54)
      have hxa := heap_alloc_new X0 (.cells #[.int .i64 0, .slice none 0 0, .slice none 0 0] 54)
      have HBA := Lib.hid hba
      have HXA := Lib.hid hxa
      clear hba hxa hS0
      refine wpAnyH_ready (rs := [2]) (by kernel_rfl) (by simp) ?_
      refine AllReadyH.cons rfl (fun KK hKK => ?_) ?_
      rotate_left
      · exact AllReadyH.nil
      rw [if_pos (by kernel_rfl)]
      go_simp
      refine hKK.out _ _ (HBR.out _ HBA.out) (fun hHeld => ?_)
      clear hKK KK
      generalize X0.alloc (.cells #[.int .i64 0, .slice none 0 0, .slice none 0 0] 54) = X1 at HBA HXA hHeld ⊢
      obtain ⟨tb, htb⟩ : ∃ tb, tb = X0.heap.size := ⟨_, rfl⟩
      rw [← htb] at HXA ⊢
      have htb2 : wr.heap.size ≤ tb := by omega
      clear htb hbd hz0
      have r0 : X1.cell? ⟨tb, 0, none⟩ = some (.int .i64 0) := blk_cell HXA.out 0
      have r1 : X1.cell? ⟨tb, 1, none⟩ = some (.slice none 0 0) := blk_cell HXA.out 1
      have r2 : X1.cell? ⟨tb, 2, none⟩ = some (.slice none 0 0) := blk_cell HXA.out 2
      have f0 := blk_frozen HXA.out 0
      have f1 := blk_frozen HXA.out 1
      have f2 := blk_frozen HXA.out 2
      have hb9 := ((HBA.out.setCell (p := ⟨tb, 0, none⟩) htb2 (.int .i64 0)).setCell (p := ⟨tb, 1, none⟩) htb2 (.slice none 0 0)).setCell (p := ⟨tb, 2, none⟩) htb2 (.slice none 0 0)
      have t3 := blk_set (blk_set (blk_set HXA.out 0 (.int .i64 0)) 1 (.slice none 0 0)) 2 (.slice none 0 0)
      have HB9 := Lib.hid hb9
      have HT3 := Lib.hid t3
      clear hb9 t3
      refine wpAnyH_ready (rs := [3]) (by kernel_rfl) (by simp) ?_
      refine AllReadyH.cons rfl (fun KK hKK => ?_) ?_
      rotate_left
      · exact AllReadyH.nil
      rw [if_pos (by kernel_rfl)]
      go_simp
      refine hKK.out _ _ (HBR.out _ HB9.out) (fun hHeld => ?_)
      clear hKK KK r0 r1 r2 f0 f1 f2 HXA HBA
      refine wpAnyH_take (i := 4) (v := ?_) rfl (by kernel_rfl) (by kernel_rfl) (by kernel_rfl) (fun _ _ _ h => h) (Or.inl ⟨by kernel_rfl, ?_⟩) hHeld ?_
      rotate_left
      · intro w hSw
        go_simp
        try with_reducible rfl
      clear hHeld
      refine wpAnyH_done (by kernel_rfl) ?_ _
      refine NoPanic.normal ?_
      generalize ((X1.setCell ⟨tb, 0, none⟩ (.int .i64 0)).setCell ⟨tb, 1, none⟩ (.slice none 0 0)).setCell ⟨tb, 2, none⟩ (.slice none 0 0) = X9 at HB9 HT3 ⊢
      simp only [Act.put, List.getElem_toArray, List.getElem_cons_zero, List.getElem_cons_succ, List.setIfInBounds_toArray, List.set_cons_zero, List.set_cons_succ]
      obtain ⟨d0, d1, d2, d3, d4, d5, d6, d7, d8⟩ := HCX7.out.below HB9.out hz7
      clear d0 d2 d3 d4 d6 d7
      go_upto_region 26 with fail
      go_cut [137] (fun s137 wx => X9 = wx ∧ ∃ b : Bool, s137 = .bool b)
      case first =>
        by_cases q1 : o.s.size ≤ 100
        · have e1 : (o.s.size : Int) ≤ 100 := by omega
          by_cases q2 : o.ls.size ≤ 100
          · have e2 : (o.ls.size : Int) ≤ 100 := by omega
            by_cases q3 : o.hs.size ≤ 100
            · have e3 : (o.hs.size : Int) ≤ 100 := by omega
              clear q1 q2 q3
              go_wp2
              all_goals go_meet
              all_goals exact ⟨rfl, _, rfl⟩
            · have e3 : decide ((o.hs.size : Int) ≤ 100) = false := decide_eq_false (by omega)
              clear q1 q2 q3
              go_wp2
              all_goals go_meet
              all_goals exact ⟨rfl, _, rfl⟩
          · have e2 : decide ((o.ls.size : Int) ≤ 100) = false := decide_eq_false (by omega)
            clear q1 q2
            go_wp2
            all_goals go_meet
            all_goals exact ⟨rfl, _, rfl⟩
        · have e1 : decide ((o.s.size : Int) ≤ 100) = false := decide_eq_false (by omega)
          clear q1
          go_wp2
          all_goals go_meet
          all_goals exact ⟨rfl, _, rfl⟩
      case rest =>
      obtain ⟨rfl, b, rfl⟩ := hcut
      clear d1 d5 d8
      go_upto_if 137 with fail
      go_cut [20] (fun s20 wx => RowKit.Hid (TFil M tb (errV EA 15) wx s20) ∧ RowKit.Hid (Below wr.heap.size wr wx))
      case first =>
        cases b with
        | false =>
          go_wp2
          all_goals go_meet
          all_goals exact ⟨Lib.hid (.inl ⟨rfl, lt_of_heap HT3.out⟩), HB9⟩
        | true =>
          have C5 := tabl_any X9 p M (HM7.out.below HB9.out) 1024 EA (HBR.out _ HB9.out)
          have hmin : min (1024 : Int) 1024 = 1024 := rfl
          rw [hmin] at C5
          clear hmin
          go_wp2_with fail
          refine C5.mono ?_
          rintro e w8 hpost
          clear C5
          rcases hpost with ⟨A, X, ca, cx, T, N, rfl, htab, hcan, hn0, hnN, -, hN, hb8⟩ | ⟨rfl, -, hb8⟩
          · have HB8 := Lib.hid (HB9.out.trans (hb8.mono HB9.out.size))
            have hbk := (hb8.block tb (lt_of_heap HT3.out)).trans HT3.out
            have r0 : w8.cell? ⟨tb, 0, none⟩ = some (.int .i64 0) := blk_cell hbk 0
            have r1 : w8.cell? ⟨tb, 1, none⟩ = some (.slice none 0 0) := blk_cell hbk 1
            have r2 : w8.cell? ⟨tb, 2, none⟩ = some (.slice none 0 0) := blk_cell hbk 2
            have f0 := blk_frozen hbk 0
            have f1 := blk_frozen hbk 1
            have f2 := blk_frozen hbk 2
            have s3 := blk_set (blk_set (blk_set hbk 0 (.int .i64 0)) 1 (.slice A T.n ca)) 2 (.slice X (256 * T.n) cx)
            have hA3 := ((htab.acc.setOther (p := ⟨tb, 0, none⟩) (htab.acc.ne_type hbk (by decide)) (.int .i64 0)).setOther (p := ⟨tb, 1, none⟩) (htab.acc.ne_type hbk (by decide)) (.slice A T.n ca)).setOther (p := ⟨tb, 2, none⟩) (htab.acc.ne_type hbk (by decide)) (.slice X (256 * T.n) cx)
            have hN3 := ((htab.nx.setOther (p := ⟨tb, 0, none⟩) (htab.nx.ne_type hbk (by decide)) (.int .i64 0)).setOther (p := ⟨tb, 1, none⟩) (htab.nx.ne_type hbk (by decide)) (.slice A T.n ca)).setOther (p := ⟨tb, 2, none⟩) (htab.nx.ne_type hbk (by decide)) (.slice X (256 * T.n) cx)
            have HFIN := Lib.hid (show TFil M tb (errV EA 15) (((w8.setCell ⟨tb, 0, none⟩ (.int .i64 0)).setCell ⟨tb, 1, none⟩ (.slice A T.n ca)).setCell ⟨tb, 2, none⟩ (.slice X (256 * T.n) cx)) .nilIface from .inr ⟨rfl, _, A, X, ca, cx, T, s3, ⟨hA3, hN3⟩, hcan, hn0, by omega⟩)
            have HB10 := Lib.hid (((HB8.out.setCell (p := ⟨tb, 0, none⟩) htb2 (.int .i64 0)).setCell (p := ⟨tb, 1, none⟩) htb2 (.slice A T.n ca)).setCell (p := ⟨tb, 2, none⟩) htb2 (.slice X (256 * T.n) cx))
            clear htab hcan hb8 hbk s3 hA3 hN3 hn0 hnN hN
            go_wp2
            all_goals go_meet
            all_goals exact ⟨HFIN, HB10⟩
          · have HB8 := Lib.hid (HB9.out.trans (hb8.mono HB9.out.size))
            have hbk := (hb8.block tb (lt_of_heap HT3.out)).trans HT3.out
            have r0 : w8.cell? ⟨tb, 0, none⟩ = some (.int .i64 0) := blk_cell hbk 0
            have r1 : w8.cell? ⟨tb, 1, none⟩ = some (.slice none 0 0) := blk_cell hbk 1
            have r2 : w8.cell? ⟨tb, 2, none⟩ = some (.slice none 0 0) := blk_cell hbk 2
            have f0 := blk_frozen hbk 0
            have f1 := blk_frozen hbk 1
            have f2 := blk_frozen hbk 2
            have s3 := blk_set (blk_set (blk_set hbk 0 (.int .i64 0)) 1 (.slice none 0 0)) 2 (.slice none 0 0)
            have HFIN := Lib.hid (show TFil M tb (errV EA 15) (((w8.setCell ⟨tb, 0, none⟩ (.int .i64 0)).setCell ⟨tb, 1, none⟩ (.slice none 0 0)).setCell ⟨tb, 2, none⟩ (.slice none 0 0)) (errV EA 15) from .inl ⟨rfl, lt_of_heap s3⟩)
            have HB10 := Lib.hid (((HB8.out.setCell (p := ⟨tb, 0, none⟩) htb2 (.int .i64 0)).setCell (p := ⟨tb, 1, none⟩) htb2 (.slice none 0 0)).setCell (p := ⟨tb, 2, none⟩) htb2 (.slice none 0 0))
            clear hb8 hbk s3
            go_wp2
            all_goals go_meet
            all_goals exact ⟨HFIN, HB10⟩
      case rest =>
      obtain ⟨HT, HBX⟩ := hcut
      clear HB9 HT3 HCX7
      have HMX := Lib.hid (show ∀ Y, Below wc.heap.size wc Y → IsAuto Y p M from fun Y e => HM7.out.below (HBX.out.trans (e.mono HBX.out.size)))
      have HWX := Lib.hid (show ∀ Y, Below wc.heap.size wc Y → Below w.heap.size w Y from fun Y e => HBW.out.trans ((HBX.out.trans (e.mono HBX.out.size)).mono HBW.out.size))
      have HRX := Lib.hid (show ∀ Y, Below wc.heap.size wc Y → Rd Y (.slice a2 ts.length c2) (strsV ts) from fun Y e => HR2.out _ (HWX.out Y e))
      rcases HT.out with ⟨rfl, htl⟩ | ⟨rfl, B, A, X, ca, cx, T, hblk, htab, hcan, hn0, hn2'⟩
      · clear HT
        unfold errV
        go_wp2
        go_loopw [152] (fun s152 wx => ∃ i : Nat, s152 = .int .i64 i ∧ i ≤ ts.length ∧ RowKit.Hid (Below wc.heap.size wc wx)) (fun s152 _ => ts.length - (intOf s152).toNat)
        case atStart => exact ⟨0, rfl, Nat.zero_le _, Lib.hid (Below.refl _ _)⟩
        case round =>
          obtain ⟨i, rfl, hi, HBI⟩ := hrel
          by_cases hlt : i < ts.length
          · obtain ⟨b, qo, hav, hc⟩ := (rd_strs (HRX.out wr HBI.out)).2 i hlt
            subst hav
            obtain ⟨x, hx⟩ : ∃ x, ts[i] = x := ⟨_, rfl⟩
            rw [hx] at hc
            have HLT := Lib.hid hlt
            have i1 : (i : Int) < (ts.length : Int) := by omega
            clear hx hlt hi
            by_cases hbig : 300 < x.size
            · have i2 : (300 : Int) < (x.size : Int) := by omega
              clear hbig
              go_wp2
              go_roundw
              case rel => exact ⟨i + 1, by go_num, by have := HLT.out; omega, HBI⟩
              case measure => have := HLT.out; simp [intOf]; omega
            have i2 : ¬ (300 : Int) < (x.size : Int) := by omega
            have hxs : x.size ≤ 300 := by omega
            have C7 := accepts_any wr p M (HMX.out wr HBI.out) x (by omega)
            obtain ⟨y, hy⟩ : ∃ y, accM M x.data.toList = y := ⟨_, rfl⟩
            rw [hy] at C7
            have HY := Lib.hid hy
            clear hbig hy
            go_wp2_with fail
            refine C7.mono ?_
            rintro e w7 ⟨rfl, hb7⟩
            have HB7 := Lib.hid (HBI.out.trans (hb7.mono HBI.out.size))
            clear C7 hb7 hc i2
            go_wp2
            go_loopw [24] (fun s24 wx => ∃ j : Nat, s24 = .int .i64 j ∧ j ≤ x.size + 1 ∧ RowKit.Hid (Below wc.heap.size wc wx)) (fun s24 _ => x.size + 1 - (intOf s24).toNat)
            case atStart => exact ⟨0, rfl, Nat.zero_le _, HB7⟩
            case round =>
              obtain ⟨j, rfl, hj, HBJ⟩ := hrel
              cases y with
              | false =>
                by_cases hjl : j ≤ x.size
                · have t1 : decide (j ≤ x.size) = true := decide_eq_true hjl
                  clear hjl
                  go_wp2
                  go_roundw
                  case rel => exact ⟨i + 1, by go_num, by have := HLT.out; omega, HBJ⟩
                  case measure => have := HLT.out; simp [intOf]; omega
                · have t1 : decide (j ≤ x.size) = false := decide_eq_false hjl
                  clear hjl
                  go_wp2
                  go_roundw
                  case rel => exact ⟨i + 1, by go_num, by have := HLT.out; omega, HBJ⟩
                  case measure => have := HLT.out; simp [intOf]; omega
              | true =>
                by_cases hjl : j ≤ x.size
                · have t1 : decide (j ≤ x.size) = true := decide_eq_true hjl
                  have j1 : (j : Int) ≤ (x.size : Int) := by omega
                  have C8 := alive_any wr p M (HMX.out wr HBJ.out) (x.extract 0 j) (by rw [ByteArray.size_extract]; omega)
                  rw [alive_take HY.out j] at C8
                  have HJL := Lib.hid hjl
                  clear hjl
                  go_wp2_with fail
                  refine C8.mono ?_
                  rintro e w8 ⟨rfl, hb8⟩
                  have HB8 := Lib.hid (HBJ.out.trans (hb8.mono HBJ.out.size))
                  clear C8 hb8
                  go_wp2
                  go_roundw
                  case rel => exact ⟨j + 1, by go_num, by have := HJL.out; omega, HB8⟩
                  case measure => have := HJL.out; simp [intOf]; omega
                · have t1 : decide (j ≤ x.size) = false := decide_eq_false hjl
                  clear hjl
                  go_wp2
                  go_roundw
                  case rel => exact ⟨i + 1, by go_num, by have := HLT.out; omega, HBJ⟩
                  case measure => have := HLT.out; simp [intOf]; omega
          · obtain rfl : i = ts.length := by omega
            have i1 : ¬ (ts.length : Int) < (ts.length : Int) := by omega
            have HBE := Lib.hid (HWX.out _ HBI.out)
            clear hlt hi
            go_wp2
            go_ret
            exact ⟨rfl, HBE.out⟩
      · clear HT
        have HBLK := Lib.hid hblk
        have HTAB := Lib.hid htab
        have HCAN := Lib.hid hcan
        have C6 := whole_any wc B A X ca cx T htab hn0 hn2' hcan.rng
        have r0 : wc.cell? ⟨tb, 0, none⟩ = some (.int .i64 0) := blk_cell hblk 0
        have r1 : wc.cell? ⟨tb, 1, none⟩ = some (.slice A T.n ca) := blk_cell hblk 1
        have r2 : wc.cell? ⟨tb, 2, none⟩ = some (.slice X (256 * T.n) cx) := blk_cell hblk 2
        clear hblk htab hcan
        go_wp2_with fail
        refine C6.mono ?_
        rintro e w9 ⟨rfl, hb9⟩
        have HB9 := Lib.hid hb9
        clear C6 r0 r1 r2 hb9
        go_wp2
        go_loopw [152] (fun s152 wx => ∃ i : Nat, s152 = .int .i64 i ∧ i ≤ ts.length ∧ RowKit.Hid (Below wc.heap.size wc wx)) (fun s152 _ => ts.length - (intOf s152).toNat)
        case atStart => exact ⟨0, rfl, Nat.zero_le _, HB9⟩
        case round =>
          obtain ⟨i, rfl, hi, HBI⟩ := hrel
          by_cases hlt : i < ts.length
          · obtain ⟨b, qo, hav, hc⟩ := (rd_strs (HRX.out wr HBI.out)).2 i hlt
            subst hav
            obtain ⟨x, hx⟩ : ∃ x, ts[i] = x := ⟨_, rfl⟩
            rw [hx] at hc
            have HLT := Lib.hid hlt
            have i1 : (i : Int) < (ts.length : Int) := by omega
            clear hx hlt hi
            by_cases hbig : 300 < x.size
            · have i2 : (300 : Int) < (x.size : Int) := by omega
              clear hbig
              go_wp2
              go_roundw
              case rel => exact ⟨i + 1, by go_num, by have := HLT.out; omega, HBI⟩
              case measure => have := HLT.out; simp [intOf]; omega
            have i2 : ¬ (300 : Int) < (x.size : Int) := by omega
            have hxs : x.size ≤ 300 := by omega
            have C7 := accepts_any wr p M (HMX.out wr HBI.out) x (by omega)
            obtain ⟨y, hy⟩ : ∃ y, accM M x.data.toList = y := ⟨_, rfl⟩
            rw [hy] at C7
            have HY := Lib.hid hy
            clear hbig hy
            go_wp2_with fail
            refine C7.mono ?_
            rintro e w7 ⟨rfl, hb7⟩
            have HB7 := Lib.hid (HBI.out.trans (hb7.mono HBI.out.size))
            clear C7 hb7 hc i2
            have hbk := (HB7.out.block tb (lt_of_heap HBLK.out)).trans HBLK.out
            have r0 : w7.cell? ⟨tb, 0, none⟩ = some (.int .i64 0) := blk_cell hbk 0
            have r1 : w7.cell? ⟨tb, 1, none⟩ = some (.slice A T.n ca) := blk_cell hbk 1
            have r2 : w7.cell? ⟨tb, 2, none⟩ = some (.slice X (256 * T.n) cx) := blk_cell hbk 2
            have C9 := through_any w7 B A X ca cx T (HTAB.out.below HB7.out (Nat.le_refl _)) hn0 hn2' HCAN.out.rng x (by omega)
            rw [thr_acc HCAN.out, HY.out] at C9
            have ty : (y != y) = false := by simp
            clear hbk
            go_wp2_with fail
            refine C9.mono ?_
            rintro e w10 ⟨rfl, hb10⟩
            have HB10 := Lib.hid (HB7.out.trans (hb10.mono HB7.out.size))
            clear C9 hb10 r0 r1 r2
            go_wp2
            go_loopw [24] (fun s24 wx => ∃ j : Nat, s24 = .int .i64 j ∧ j ≤ x.size + 1 ∧ RowKit.Hid (Below wc.heap.size wc wx)) (fun s24 _ => x.size + 1 - (intOf s24).toNat)
            case atStart => exact ⟨0, rfl, Nat.zero_le _, HB10⟩
            case round =>
              obtain ⟨j, rfl, hj, HBJ⟩ := hrel
              cases y with
              | false =>
                by_cases hjl : j ≤ x.size
                · have t1 : decide (j ≤ x.size) = true := decide_eq_true hjl
                  clear hjl
                  go_wp2
                  go_roundw
                  case rel => exact ⟨i + 1, by go_num, by have := HLT.out; omega, HBJ⟩
                  case measure => have := HLT.out; simp [intOf]; omega
                · have t1 : decide (j ≤ x.size) = false := decide_eq_false hjl
                  clear hjl
                  go_wp2
                  go_roundw
                  case rel => exact ⟨i + 1, by go_num, by have := HLT.out; omega, HBJ⟩
                  case measure => have := HLT.out; simp [intOf]; omega
              | true =>
                by_cases hjl : j ≤ x.size
                · have t1 : decide (j ≤ x.size) = true := decide_eq_true hjl
                  have j1 : (j : Int) ≤ (x.size : Int) := by omega
                  have C8 := alive_any wr p M (HMX.out wr HBJ.out) (x.extract 0 j) (by rw [ByteArray.size_extract]; omega)
                  rw [alive_take HY.out j] at C8
                  have HJL := Lib.hid hjl
                  clear hjl
                  go_wp2_with fail
                  refine C8.mono ?_
                  rintro e w8 ⟨rfl, hb8⟩
                  have HB8 := Lib.hid (HBJ.out.trans (hb8.mono HBJ.out.size))
                  clear C8 hb8
                  go_wp2
                  go_roundw
                  case rel => exact ⟨j + 1, by go_num, by have := HJL.out; omega, HB8⟩
                  case measure => have := HJL.out; simp [intOf]; omega
                · have t1 : decide (j ≤ x.size) = false := decide_eq_false hjl
                  clear hjl
                  go_wp2
                  go_roundw
                  case rel => exact ⟨i + 1, by go_num, by have := HLT.out; omega, HBJ⟩
                  case measure => have := HLT.out; simp [intOf]; omega
          · obtain rfl : i = ts.length := by omega
            have i1 : ¬ (ts.length : Int) < (ts.length : Int) := by omega
            have HBE := Lib.hid (HWX.out _ HBI.out)
            clear hlt hi
            go_wp2
            go_ret
            exact ⟨rfl, HBE.out⟩
end Go.Proofs.YtejmjjgbbojfbaaDoor
