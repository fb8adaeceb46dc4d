/- The document's dictionary: block, Build. -/
import Derived.Test.YtfeldllcpeibcaaDoorRef6
namespace Go.Proofs.YtfeldllcpeibcaaDoor
set_option linter.unusedVariables false
open Go.ChangeShapes Go.WideShapes Go.ChangeAt Go.RowKit

/-- The key before entry number j of a block. -/
def prevK (es : List EntV) : Nat → ByteArray
  | 0 => ⟨#[]⟩
  | j + 1 => (es[j]?.map EntV.k).getD ⟨#[]⟩
theorem prevK_succ (es : List EntV) (j : Nat) (h : j < es.length) : prevK es (j + 1) = es[j].k := by
  show (es[j]?.map EntV.k).getD _ = _
  rw [List.getElem?_eq_getElem h]; rfl
set_option maxRecDepth 100000 in
set_option maxHeartbeats 4000000 in
theorem rblock_any (w : World) (a : Option Addr) (n c : Nat) (es : List EntV) (hr : RdEnt w a n es) (hel : es.length ≤ 1000000000) (lo hi : Nat) (hlh : lo ≤ hi) (hhl : hi ≤ es.length) (hok : ∀ e ∈ es, entOk e = true) (hT : (blkB [] ((es.take hi).drop lo)).length ≤ 1000000000) :
    Calls Tryd.prog 44 #[.slice a n c, .int .i64 lo, .int .i64 hi] w fun e w' => ∃ v', e = .returned v' ∧ Own w' w.heap.size 5 v' (bytesV (blkB [] ((es.take hi).drop lo))) ∧ Below w.heap.size w w' := by
  obtain rfl := hr.1
  obtain ⟨part, hpart⟩ : ∃ part, (es.take hi).drop lo = part := ⟨_, rfl⟩
  have hpl : part.length = hi - lo := by rw [← hpart, List.length_drop, List.length_take]; omega
  have hpe : ∀ j (h : j < part.length), part[j] = es[lo + j]'(by omega) := fun j h => by
    subst hpart; rw [List.getElem_drop, List.getElem_take]
  rw [hpart] at hT ⊢
  have HR := Lib.hid hr
  have HOK := Lib.hid hok
  have HPE := Lib.hid hpe
  have HPL := Lib.hid hpl
  have HT := Lib.hid hT
  clear hr hok hpe hT hpart
  go_enter Tryd.func44, Tryd.ntmps44
  go_wp2
  go_loopw [7, 8] (fun s7 s8 wr => ∃ (j : Nat) (A : Option Addr) (N C : Nat) (acc : List UInt8), s7 = .slice A N C ∧ s8 = .int .i64 (lo + j : Nat) ∧ j ≤ part.length ∧ Own wr w.heap.size 5 (.slice A N C) (bytesV acc) ∧ acc ++ blkB (prevK part j).data.toList (part.drop j) = blkB [] part ∧ Below w.heap.size w wr) (fun _ s8 _ => hi - (intOf s8).toNat)
  case atStart => exact ⟨0, none, 0, 0, [], rfl, rfl, Nat.zero_le _, own_nil _ _ _, rfl, Below.refl _ _⟩
  case round =>
    obtain ⟨j, A, N, C, acc, rfl, rfl, hj, ho, htot, hb⟩ := hrel
    have hz := hb.size
    have hal : acc.length ≤ 1000000000 := by have := congrArg List.length htot; rw [List.length_append] at this; have := HT.out; omega
    by_cases hlt : j < part.length
    · have hlj : lo + j < es.length := by omega
      have hlh2 : lo + j < hi := by omega
      have hpj := HPE.out j hlt
      have hoki := HOK.out es[lo + j] (List.getElem_mem hlj)
      have hdr : part.drop j = part[j] :: part.drop (j + 1) := List.drop_eq_getElem_cons hlt
      have hpk := prevK_succ part j hlt
      rw [hpj] at hdr hpk
      obtain ⟨en, hen⟩ : ∃ en, es[lo + j] = en := ⟨_, rfl⟩
      rw [hen] at hoki hdr hpk
      rw [hdr] at htot
      have hcell : ∀ W, Below w.heap.size w W → ∃ b o, a = some ⟨b, o, none⟩ ∧ EntAt W b (o + (lo + j) * 5) en := fun W hW => by
        obtain ⟨b, o, e, hat⟩ := (HR.out.below hW (Nat.le_refl _)).at_ (by omega)
        have := hat (lo + j) hlj
        rw [hen] at this
        exact ⟨b, o, e, this⟩
      obtain ⟨ek, ed, et, ea, es'⟩ := en
      have hekl := (entOk_len hoki).2
      have hkk : (EntV.K ⟨ek, ed, et, ea, es'⟩).length = ek.size := Array.length_toList (xs := ek.data)
      rw [hkk] at hekl
      have hnum := num4_ok hoki
      have hshr := (shr_le (prevK part j).data.toList ek.data.toList).2
      rw [show ek.data.toList.length = ek.size from hkk] at hshr
      rw [show blkB (prevK part j).data.toList (⟨ek, ed, et, ea, es'⟩ :: part.drop (j + 1)) = entB (prevK part j).data.toList ⟨ek, ed, et, ea, es'⟩ ++ blkB ek.data.toList (part.drop (j + 1)) from rfl, entB_nums, hkk] at htot
      change acc ++ (uvar (shr (prevK part j).data.toList ek.data.toList) ++ (uvar (ek.size - shr (prevK part j).data.toList ek.data.toList) ++ (ek.data.toList.drop (shr (prevK part j).data.toList ek.data.toList) ++ numsB [ed, et, ea, es'])) ++ blkB ek.data.toList (part.drop (j + 1))) = blkB [] part at htot
      rw [show ek.data.toList = (prevK part (j + 1)).data.toList by rw [hpk]] at htot
      obtain ⟨b, o, rfl, e0, e1, e2, e3, e4⟩ := hcell wr hb
      simp only at e0
      have hn0 := hnum 0
      have hn1 := hnum 1
      have hn2 := hnum 2
      have hn3 := hnum 3
      simp only [num4] at hn0 hn1 hn2 hn3
      obtain ⟨k1, hk1⟩ : ∃ k1, shr (prevK part j).data.toList (prevK part (j + 1)).data.toList = k1 := ⟨_, rfl⟩
      have hk1' : shr (prevK part j).data.toList ek.data.toList = k1 := by rw [← hk1, hpk]
      rw [hk1] at htot
      rw [hk1'] at hshr
      rw [hpk] at htot
      have hnx : acc ++ (uvar k1 ++ (uvar (ek.size - k1) ++ (ek.data.toList.drop k1 ++ numsB [ed, et, ea, es']))) ++ blkB (prevK part (j + 1)).data.toList (part.drop (j + 1)) = blkB [] part := by rw [hpk, ← htot]; simp only [List.append_assoc]
      obtain ⟨hx1, hx2⟩ := drop_str ek k1 hshr
      obtain ⟨r1, hr1⟩ : ∃ r1, ek.size - k1 = r1 := ⟨_, rfl⟩
      rw [hr1] at hnx hx2
      have hr2 : ((r1 : Nat) : Int) = (ek.size : Int) - (k1 : Int) := by omega
      have hr3 : r1 ≤ 65 := by omega
      have HR2 := Lib.hid hr2
      have HNX := Lib.hid hnx
      have HX1 := Lib.hid hx1
      have HX2 := Lib.hid hx2
      have HC := Lib.hid hcell
      have HO := Lib.hid ho
      have HB := Lib.hid hb
      have HK1 := Lib.hid hk1'
      have i1 : ((lo + j : Nat) : Int) < (es.length : Int) := by omega
      have tl : decide (lo + j < hi) = true := decide_eq_true hlh2
      obtain ⟨x, hx⟩ : ∃ x, lo + j = x := ⟨_, rfl⟩
      rw [hx] at e0 e1 e2 e3 e4 i1 tl hlj hlh2 ⊢
      have HX := Lib.hid hx
      clear hr1 hr2 htot hnx hx1 hx2 hcell ho hb hk1 hk1' hoki hdr hen hkk hpj hnum hpk
      by_cases hj0 : j = 0
      · have tj : decide (lo < x) = false := decide_eq_false (by have := HX.out; omega)
        have hk0 : k1 = 0 := by rw [← HK1.out, hj0]; exact shr_nil _
        subst hk0
        have HX1 := Lib.hid (show ek.data.toList = ek.data.toList.drop 0 from rfl)
        have HX2 := Lib.hid (show ek.size = r1 by have := HR2.out; omega)
        clear hj0
        go_upto_region 8 with fail
        obtain ⟨Wd, hWd⟩ : ∃ Wd, Wd = wr := ⟨_, rfl⟩
        have ho0 : Own Wd w.heap.size 5 (.slice A N C) (bytesV acc) := by rw [hWd]; exact HO.out
        have hb0 : Below w.heap.size w Wd := by rw [hWd]; exact HB.out
        rw [← hWd]
        clear hWd e0 e1 e2 e3 e4
        have hu1 := (uvar_le 0 (by omega)).2
        have hu2 := (uvar_le r1 (by omega)).2
        have C1 := ruv_grow Wd w.heap.size A N C acc ho0 hb0.size (by omega) 0 (by omega)
        have HO0 := Lib.hid ho0
        have HB0 := Lib.hid hb0
        clear ho0 hb0
        go_wp2_with fail
        refine C1.mono ?_
        rintro e W1 ⟨v1, rfl, ho1, hg1⟩
        clear C1
        have hb1 := HB0.out.trans (hg1.below HO0.out HB0.out.size)
        obtain ⟨b', o', hbo, e0, _⟩ := HC.out W1 hb1
        obtain ⟨A1, N1, C1', rfl⟩ := own_sl ho1
        injection hbo with hbo
        injection hbo with hb_ ho_ _
        subst hb_ ho_
        rw [HX.out] at e0
        simp only at e0
        have q1 : IntKind.i64.wrap ((ek.size : Int) - (0 : Int)) = (ek.size : Int) - (0 : Int) := IntWalk.i64_in _ (by omega)
        have C2 := ruv_grow W1 w.heap.size A1 N1 C1' _ ho1 hb1.size (by rw [List.length_append]; omega) r1 (by omega)
        rw [show ((r1 : Nat) : Int) = (ek.size : Int) by have := HR2.out; omega] at C2
        have HO1 := Lib.hid ho1
        have HB1 := Lib.hid hb1
        clear ho1 hb1 hg1
        go_wp2_with fail
        refine C2.mono ?_
        rintro e W2 ⟨v2, rfl, ho2, hg2⟩
        clear C2 q1 e0
        have hb2 := HB1.out.trans (hg2.below HO1.out HB1.out.size)
        obtain ⟨b', o', hbo, e0, _⟩ := HC.out W2 hb2
        obtain ⟨A2, N2, C2', rfl⟩ := own_sl ho2
        injection hbo with hbo
        injection hbo with hb_ ho_ _
        subst hb_ ho_
        rw [HX.out] at e0
        simp only at e0
        have hl2 : (bytesV (acc ++ uvar 0 ++ uvar r1)).length + (ek).size < 1000000000001 := by
          rw [HX2.out, bytesV_length, List.length_append, List.length_append]; omega
        have HO2 := Lib.hid ho2
        have HB2 := Lib.hid hb2
        have HL2 := Lib.hid hl2
        have hz2 := hb2.size
        clear ho2 hb2 hg2 hl2
        go_wp2_with (at_builtin; with_reducible refine apS elBytes Tryd.underlying9 HO2.out HL2.out hz2 rfl _ _ rfl rfl rfl ?_)
        intro v3 W3 ho3 _ hor3 hgr3
        rw [HX1.out, ← bytesV_append] at ho3
        have hg3 := Grew.of hgr3 (hor3.imp id (fun h => ⟨_, h.1, Nat.le_refl _⟩))
        have hb3 := HB2.out.trans (hg3.below HO2.out HB2.out.size)
        obtain ⟨A3, N3, C3', rfl⟩ := own_sl ho3
        obtain ⟨acc3, hacc3⟩ : ∃ acc3, acc ++ (uvar 0 ++ (uvar r1 ++ ek.data.toList.drop 0)) = acc3 := ⟨_, rfl⟩
        simp only [List.append_assoc] at ho3
        rw [hacc3] at ho3
        have hnx3 : acc3 ++ numsB [ed, et, ea, es'] ++ blkB (prevK part (j + 1)).data.toList (part.drop (j + 1)) = blkB [] part := by rw [← HNX.out, ← hacc3]; simp only [List.append_assoc]
        have hal3 : acc3.length ≤ 1000000000 := by have := congrArg List.length hnx3; rw [List.length_append, List.length_append] at this; have := HT.out; omega
        have HO3 := Lib.hid ho3
        have HB3 := Lib.hid hb3
        have HNX3 := Lib.hid hnx3
        clear ho3 hb3 hg3 hor3 hgr3 e0 hacc3 hnx3

        obtain ⟨b', o', hbo, e0, e1, e2, e3, e4⟩ := HC.out W3 HB3.out
        injection hbo with hbo
        injection hbo with hb_ ho_ _
        subst hb_ ho_
        rw [HX.out] at e0 e1 e2 e3 e4
        simp only at e0 e1 e2 e3 e4
        have hv4 := (uvar_le (ed).toNat (by omega)).2
        have C4q := ruv_grow W3 w.heap.size A3 N3 C3' _ HO3.out HB3.out.size (by omega) (ed).toNat (by omega)
        rw [show (((ed).toNat : Nat) : Int) = ed by omega] at C4q
        clear e0
        go_wp2_with fail
        refine C4q.mono ?_
        rintro e W4 ⟨v4, rfl, ho4, hg4⟩
        clear C4q e1 e2 e3 e4
        have hb4 := HB3.out.trans (hg4.below HO3.out HB3.out.size)
        obtain ⟨A4, N4, C4', rfl⟩ := own_sl ho4
        have HO4 := Lib.hid ho4
        have HB4 := Lib.hid hb4
        clear ho4 hb4 hg4

        obtain ⟨b', o', hbo, e0, e1, e2, e3, e4⟩ := HC.out W4 HB4.out
        injection hbo with hbo
        injection hbo with hb_ ho_ _
        subst hb_ ho_
        rw [HX.out] at e0 e1 e2 e3 e4
        simp only at e0 e1 e2 e3 e4
        have hv5 := (uvar_le (et).toNat (by omega)).2
        have C5q := ruv_grow W4 w.heap.size A4 N4 C4' _ HO4.out HB4.out.size (by simp only [List.length_append]; omega) (et).toNat (by omega)
        rw [show (((et).toNat : Nat) : Int) = et by omega] at C5q
        clear e0
        go_wp2_with fail
        refine C5q.mono ?_
        rintro e W5 ⟨v5, rfl, ho5, hg5⟩
        clear C5q e1 e2 e3 e4
        have hb5 := HB4.out.trans (hg5.below HO4.out HB4.out.size)
        obtain ⟨A5, N5, C5', rfl⟩ := own_sl ho5
        have HO5 := Lib.hid ho5
        have HB5 := Lib.hid hb5
        clear ho5 hb5 hg5

        obtain ⟨b', o', hbo, e0, e1, e2, e3, e4⟩ := HC.out W5 HB5.out
        injection hbo with hbo
        injection hbo with hb_ ho_ _
        subst hb_ ho_
        rw [HX.out] at e0 e1 e2 e3 e4
        simp only at e0 e1 e2 e3 e4
        have hv6 := (uvar_le (ea).toNat (by omega)).2
        have C6q := ruv_grow W5 w.heap.size A5 N5 C5' _ HO5.out HB5.out.size (by simp only [List.length_append]; omega) (ea).toNat (by omega)
        rw [show (((ea).toNat : Nat) : Int) = ea by omega] at C6q
        clear e0
        go_wp2_with fail
        refine C6q.mono ?_
        rintro e W6 ⟨v6, rfl, ho6, hg6⟩
        clear C6q e1 e2 e3 e4
        have hb6 := HB5.out.trans (hg6.below HO5.out HB5.out.size)
        obtain ⟨A6, N6, C6', rfl⟩ := own_sl ho6
        have HO6 := Lib.hid ho6
        have HB6 := Lib.hid hb6
        clear ho6 hb6 hg6

        obtain ⟨b', o', hbo, e0, e1, e2, e3, e4⟩ := HC.out W6 HB6.out
        injection hbo with hbo
        injection hbo with hb_ ho_ _
        subst hb_ ho_
        rw [HX.out] at e0 e1 e2 e3 e4
        simp only at e0 e1 e2 e3 e4
        have hv7 := (uvar_le (es').toNat (by omega)).2
        have C7q := ruv_grow W6 w.heap.size A6 N6 C6' _ HO6.out HB6.out.size (by simp only [List.length_append]; omega) (es').toNat (by omega)
        rw [show (((es').toNat : Nat) : Int) = es' by omega] at C7q
        clear e0
        go_wp2_with fail
        refine C7q.mono ?_
        rintro e W7 ⟨v7, rfl, ho7, hg7⟩
        clear C7q e1 e2 e3 e4
        have hb7 := HB6.out.trans (hg7.below HO6.out HB6.out.size)
        obtain ⟨A7, N7, C7', rfl⟩ := own_sl ho7
        have HO7 := Lib.hid ho7
        have HB7 := Lib.hid hb7
        clear ho7 hb7 hg7

        go_wp2
        go_roundw
        case rel => exact ⟨j + 1, A7, N7, C7', _, rfl, by rw [← HX.out]; go_num, by omega, HO7.out, by rw [← HNX3.out]; simp [numsB], HB7.out⟩
        case measure => have := HX.out; simp [intOf]; omega
      · obtain ⟨j', rfl⟩ : ∃ j', j = j' + 1 := ⟨j - 1, by omega⟩
        obtain ⟨x', rfl⟩ : ∃ x', x = x' + 1 := ⟨x - 1, by have := HX.out; omega⟩
        have tj : decide (lo < x' + 1) = true := decide_eq_true (by have := HX.out; omega)
        have hpx : prevK part (j' + 1) = (es[x']'(by omega)).k := by
          rw [prevK_succ part j' (by omega), HPE.out j' (by omega)]
          have : lo + j' = x' := by have := HX.out; omega
          subst this; rfl
        obtain ⟨_, _, hbo, hatx⟩ := (HR.out.below HB.out (Nat.le_refl _)).at_ (by omega)
        have ex := (hatx x' (by omega)).k
        injection hbo with hbo
        injection hbo with hb_ ho_ _
        subst hb_ ho_
        rw [← hpx] at ex
        have hps : (prevK part (j' + 1)).size ≤ 65 := by
          rw [hpx]
          have h1 := (entOk_len (HOK.out es[x'] (List.getElem_mem (by omega)))).2
          rw [show (es[x']'(by omega)).k.size = (EntV.K (es[x']'(by omega))).length from (Array.length_toList (xs := (es[x']'(by omega)).k.data)).symm]; exact h1
        have hq : ∀ d, Calls Tryd.prog 73 #[.string (prevK part (j' + 1)), .string ek] (wr.drewN d) fun e w'' => e = .returned (.int .i64 (k1 : Nat)) ∧ ∃ m, w'' = wr.drewN m := fun d =>
          (rshr_any (wr.drewN d) _ ek (by omega) (by omega)).mono fun e w'' ⟨he, m, hm⟩ => ⟨by rw [he, HK1.out], d + m, by rw [hm, World.drewN_drewN]⟩
        have HQ := Lib.hid hq
        have HXT := Lib.hid (show List.take (ek.size - k1) (List.drop k1 ek.data.toList) = ek.data.toList.drop k1 from List.take_of_length_le (by rw [List.length_drop, show ek.data.toList.length = ek.size from Array.length_toList (xs := ek.data)]; exact Nat.le_refl _))
        have q1 : IntKind.i64.wrap (((x' + 1 : Nat) : Int) - 1) = (x' : Int) := (IntWalk.i64_in _ (by omega)).trans (by omega)
        have q2 : IntKind.i64.wrap ((x' : Int) + 1 - 1) = (x' : Int) := (IntWalk.i64_in _ (by omega)).trans (by omega)
        have q3 : IntKind.i64.wrap (x' : Int) = (x' : Int) := IntWalk.i64_in _ (by omega)
        have i3 : (x' : Int) < (es.length : Int) := by omega
        have i4 : (x' : Int) + 1 < (es.length : Int) := by omega
        generalize prevK part (j' + 1) = pk at ex HQ
        clear hpx hatx hps hq
        go_upto_region 7 with fail
        go_quiet ((go_at_call 73; with_reducible exact HQ.out _))
        clear ex q1 q2 q3 i3
        go_upto_region 8 with fail
        obtain ⟨Wd, hWd⟩ : ∃ Wd, Wd = wr.drewN nq := ⟨_, rfl⟩
        have ho0 : Own Wd w.heap.size 5 (.slice A N C) (bytesV acc) := by rw [hWd]; exact HO.out
        have hb0 : Below w.heap.size w Wd := by rw [hWd]; exact below_drewN HB.out _
        rw [← hWd]
        clear hWd e0 e1 e2 e3 e4
        have hu1 := (uvar_le k1 (by omega)).2
        have hu2 := (uvar_le r1 (by omega)).2
        have C1 := ruv_grow Wd w.heap.size A N C acc ho0 hb0.size (by omega) k1 (by omega)
        have HO0 := Lib.hid ho0
        have HB0 := Lib.hid hb0
        clear ho0 hb0
        go_wp2_with fail
        refine C1.mono ?_
        rintro e W1 ⟨v1, rfl, ho1, hg1⟩
        clear C1
        have hb1 := HB0.out.trans (hg1.below HO0.out HB0.out.size)
        obtain ⟨b', o', hbo, e0, _⟩ := HC.out W1 hb1
        obtain ⟨A1, N1, C1', rfl⟩ := own_sl ho1
        injection hbo with hbo
        injection hbo with hb_ ho_ _
        subst hb_ ho_
        rw [HX.out] at e0
        simp only at e0
        have q1 : IntKind.i64.wrap ((ek.size : Int) - (k1 : Int)) = (ek.size : Int) - (k1 : Int) := IntWalk.i64_in _ (by omega)
        have C2 := ruv_grow W1 w.heap.size A1 N1 C1' _ ho1 hb1.size (by rw [List.length_append]; omega) r1 (by omega)
        rw [HR2.out] at C2
        have HO1 := Lib.hid ho1
        have HB1 := Lib.hid hb1
        clear ho1 hb1 hg1
        go_wp2_with fail
        refine C2.mono ?_
        rintro e W2 ⟨v2, rfl, ho2, hg2⟩
        clear C2 q1 e0
        have hb2 := HB1.out.trans (hg2.below HO1.out HB1.out.size)
        obtain ⟨b', o', hbo, e0, _⟩ := HC.out W2 hb2
        obtain ⟨A2, N2, C2', rfl⟩ := own_sl ho2
        injection hbo with hbo
        injection hbo with hb_ ho_ _
        subst hb_ ho_
        rw [HX.out] at e0
        simp only at e0
        have hl2 : (bytesV (acc ++ uvar k1 ++ uvar r1)).length + (ek.extract k1 ek.size).size < 1000000000001 := by
          rw [HX2.out, bytesV_length, List.length_append, List.length_append]; omega
        have HO2 := Lib.hid ho2
        have HB2 := Lib.hid hb2
        have HL2 := Lib.hid hl2
        have hz2 := hb2.size
        clear ho2 hb2 hg2 hl2
        go_wp2_with (at_builtin; with_reducible refine apS elBytes Tryd.underlying9 HO2.out HL2.out hz2 rfl _ _ rfl rfl rfl ?_)
        intro v3 W3 ho3 _ hor3 hgr3
        rw [HXT.out, ← bytesV_append] at ho3
        have hg3 := Grew.of hgr3 (hor3.imp id (fun h => ⟨_, h.1, Nat.le_refl _⟩))
        have hb3 := HB2.out.trans (hg3.below HO2.out HB2.out.size)
        obtain ⟨A3, N3, C3', rfl⟩ := own_sl ho3
        obtain ⟨acc3, hacc3⟩ : ∃ acc3, acc ++ (uvar k1 ++ (uvar r1 ++ ek.data.toList.drop k1)) = acc3 := ⟨_, rfl⟩
        simp only [List.append_assoc] at ho3
        rw [hacc3] at ho3
        have hnx3 : acc3 ++ numsB [ed, et, ea, es'] ++ blkB (prevK part (j' + 1 + 1)).data.toList (part.drop (j' + 1 + 1)) = blkB [] part := by rw [← HNX.out, ← hacc3]; simp only [List.append_assoc]
        have hal3 : acc3.length ≤ 1000000000 := by have := congrArg List.length hnx3; rw [List.length_append, List.length_append] at this; have := HT.out; omega
        have HO3 := Lib.hid ho3
        have HB3 := Lib.hid hb3
        have HNX3 := Lib.hid hnx3
        clear ho3 hb3 hg3 hor3 hgr3 e0 hacc3 hnx3

        obtain ⟨b', o', hbo, e0, e1, e2, e3, e4⟩ := HC.out W3 HB3.out
        injection hbo with hbo
        injection hbo with hb_ ho_ _
        subst hb_ ho_
        rw [HX.out] at e0 e1 e2 e3 e4
        simp only at e0 e1 e2 e3 e4
        have hv4 := (uvar_le (ed).toNat (by omega)).2
        have C4q := ruv_grow W3 w.heap.size A3 N3 C3' _ HO3.out HB3.out.size (by omega) (ed).toNat (by omega)
        rw [show (((ed).toNat : Nat) : Int) = ed by omega] at C4q
        clear e0
        go_wp2_with fail
        refine C4q.mono ?_
        rintro e W4 ⟨v4, rfl, ho4, hg4⟩
        clear C4q e1 e2 e3 e4
        have hb4 := HB3.out.trans (hg4.below HO3.out HB3.out.size)
        obtain ⟨A4, N4, C4', rfl⟩ := own_sl ho4
        have HO4 := Lib.hid ho4
        have HB4 := Lib.hid hb4
        clear ho4 hb4 hg4

        obtain ⟨b', o', hbo, e0, e1, e2, e3, e4⟩ := HC.out W4 HB4.out
        injection hbo with hbo
        injection hbo with hb_ ho_ _
        subst hb_ ho_
        rw [HX.out] at e0 e1 e2 e3 e4
        simp only at e0 e1 e2 e3 e4
        have hv5 := (uvar_le (et).toNat (by omega)).2
        have C5q := ruv_grow W4 w.heap.size A4 N4 C4' _ HO4.out HB4.out.size (by simp only [List.length_append]; omega) (et).toNat (by omega)
        rw [show (((et).toNat : Nat) : Int) = et by omega] at C5q
        clear e0
        go_wp2_with fail
        refine C5q.mono ?_
        rintro e W5 ⟨v5, rfl, ho5, hg5⟩
        clear C5q e1 e2 e3 e4
        have hb5 := HB4.out.trans (hg5.below HO4.out HB4.out.size)
        obtain ⟨A5, N5, C5', rfl⟩ := own_sl ho5
        have HO5 := Lib.hid ho5
        have HB5 := Lib.hid hb5
        clear ho5 hb5 hg5

        obtain ⟨b', o', hbo, e0, e1, e2, e3, e4⟩ := HC.out W5 HB5.out
        injection hbo with hbo
        injection hbo with hb_ ho_ _
        subst hb_ ho_
        rw [HX.out] at e0 e1 e2 e3 e4
        simp only at e0 e1 e2 e3 e4
        have hv6 := (uvar_le (ea).toNat (by omega)).2
        have C6q := ruv_grow W5 w.heap.size A5 N5 C5' _ HO5.out HB5.out.size (by simp only [List.length_append]; omega) (ea).toNat (by omega)
        rw [show (((ea).toNat : Nat) : Int) = ea by omega] at C6q
        clear e0
        go_wp2_with fail
        refine C6q.mono ?_
        rintro e W6 ⟨v6, rfl, ho6, hg6⟩
        clear C6q e1 e2 e3 e4
        have hb6 := HB5.out.trans (hg6.below HO5.out HB5.out.size)
        obtain ⟨A6, N6, C6', rfl⟩ := own_sl ho6
        have HO6 := Lib.hid ho6
        have HB6 := Lib.hid hb6
        clear ho6 hb6 hg6

        obtain ⟨b', o', hbo, e0, e1, e2, e3, e4⟩ := HC.out W6 HB6.out
        injection hbo with hbo
        injection hbo with hb_ ho_ _
        subst hb_ ho_
        rw [HX.out] at e0 e1 e2 e3 e4
        simp only at e0 e1 e2 e3 e4
        have hv7 := (uvar_le (es').toNat (by omega)).2
        have C7q := ruv_grow W6 w.heap.size A6 N6 C6' _ HO6.out HB6.out.size (by simp only [List.length_append]; omega) (es').toNat (by omega)
        rw [show (((es').toNat : Nat) : Int) = es' by omega] at C7q
        clear e0
        go_wp2_with fail
        refine C7q.mono ?_
        rintro e W7 ⟨v7, rfl, ho7, hg7⟩
        clear C7q e1 e2 e3 e4
        have hb7 := HB6.out.trans (hg7.below HO6.out HB6.out.size)
        obtain ⟨A7, N7, C7', rfl⟩ := own_sl ho7
        have HO7 := Lib.hid ho7
        have HB7 := Lib.hid hb7
        clear ho7 hb7 hg7

        go_wp2
        go_roundw
        case rel => exact ⟨j' + 1 + 1, A7, N7, C7', _, rfl, by rw [show lo + (j' + 1 + 1) = x' + 1 + 1 by have := HX.out; omega]; go_num, by omega, HO7.out, by rw [← HNX3.out]; simp [numsB], HB7.out⟩
        case measure => have := HX.out; simp [intOf]; omega
    · have hjl : j = part.length := by omega
      have hacc : acc = blkB [] part := by rw [← htot, List.drop_eq_nil_of_le (by omega)]; simp [blkB]
      have HO := Lib.hid (hacc ▸ ho)
      obtain ⟨x, hx⟩ : ∃ x, lo + j = x := ⟨_, rfl⟩
      have tl : decide (x < hi) = false := decide_eq_false (by omega)
      rw [hx]
      have HB := Lib.hid hb
      clear htot hacc ho hb hjl hlt hx
      go_wp2
      go_ret
      exact ⟨_, rfl, HO.out, HB.out⟩
end Go.Proofs.YtfeldllcpeibcaaDoor
