/- DictFinds: the walk. -/
import Derived.Test.YtfeldllcpeibcaaDoorRefuses
import Derived.Test.YtfeldllcpeibcaaDoorEntsF
import Derived.Test.YtfeldllcpeibcaaDoorHeads
import Derived.Test.YtfeldllcpeibcaaDoorEntEq
import Derived.Laws.Bits64b
namespace Go.Proofs.YtfeldllcpeibcaaDoor
set_option linter.unusedVariables false
open Go.ChangeShapes Go.WideShapes Go.ChangeAt Go.RowKit

/-- The law's entries, by S + 131 i. -/
def fE (S : Nat) (ks : List (List UInt8)) : List EntV := entsF (fun i => ((S + 131 * i : Nat) : Int) % 300) (fun i => ((S + 131 * i : Nat) : Int) % 70000) (fun i => (((S + 131 * i) * 251 : Nat) : Int) % 2147483648) (fun i => ((S + 131 * i : Nat) : Int) % 128) ks
theorem andE127 (n : Nat) (h : n < 9223372036854775808) : bits .and .i64 (n : Int) 127 = (n : Int) % 128 := by
  have hx : n &&& 127 = n % 128 := Nat.and_two_pow_sub_one_eq_mod n 7
  have h1 : (BitVec.ofInt 64 (n : Int)).toNat = n := by
    rw [BitVec.ofInt_natCast, BitVec.toNat_ofNat]; exact Nat.mod_eq_of_lt (by omega)
  show IntKind.i64.wrap ((BitVec.ofInt 64 (n : Int) &&& BitVec.ofInt 64 127).toNat : Int) = _
  rw [BitVec.toNat_and, h1, show (BitVec.ofInt 64 127).toNat = 127 from rfl, hx, IntKind.wrap_i64]
  omega
theorem hasPre (s p : List UInt8) : Lib.hasPrefix s p = pre p s := by
  unfold Lib.hasPrefix
  cases hp : pre p s with
  | true => obtain ⟨r, hr⟩ := (pre_iff p s).1 hp; rw [hr, List.isPrefixOf_iff_prefix]; exact ⟨r, rfl⟩
  | false =>
    cases hq : p.isPrefixOf s with
    | false => rfl
    | true =>
      obtain ⟨r, hr⟩ := List.isPrefixOf_iff_prefix.1 hq
      rw [(pre_iff p s).2 ⟨r, hr.symm⟩] at hp; cases hp
theorem RowE.cap {w : World} {base n c : Nat} {a : Option Addr} {es : List EntV} (h : RowE w base (.slice a n c) es) : n ≤ c := by
  rcases h.2 with ⟨hv, _⟩ | ⟨g, cap, cur, hv, _, _, hn, _⟩
  · injection hv with _ h2 h3; omega
  · injection hv with _ h2 h3; omega
set_option maxRecDepth 100000 in
set_option maxHeartbeats 4000000 in
theorem dictFinds_walk (W : World) (a : Option Addr) (n c : Nat) (ls : List ByteArray) (hr : Rd W (.slice a n c) (ls.map Value.string)) (hll : ls.length ≤ 1048576)
    (a2 : Option Addr) (n2 c2 : Nat) (qs : List ByteArray) (hq : Rd W (.slice a2 n2 c2) (qs.map Value.string)) (hql : qs.length ≤ 1048576) (seed : Int) (EA : Nat → Addr) (hS : Sent W EA) :
    Calls Tryd.prog 8 #[.slice a n c, .slice a2 n2 c2, .int .i64 seed] W fun e W' => e = .returned (.bool true) ∧ Below W.heap.size W W' := by
  have hn2 : n2 = qs.length := by obtain ⟨A, c', h, _⟩ := hq; injection h with _ h _; rw [h, List.length_map]
  subst hn2
  have C1 := fixed_any W EA hS
  have HS := Lib.hid hS
  have HR := Lib.hid hr
  have HQ := Lib.hid hq
  clear hS hr hq
  go_enter Tryd.func8, Tryd.ntmps8
  go_wp2_with fail
  refine C1.mono ?_
  rintro e w1 ⟨rfl, hb1⟩
  clear C1
  have C2 := sorted_any w1 a n c ls (HR.out.below hb1 (Nat.le_refl _)) (by omega)
  have HB1 := Lib.hid hb1
  clear hb1
  go_wp2_with fail
  refine C2.mono ?_
  rintro e w2 ⟨v, ks, rfl, ho, hok, hpw, hkl, hb2⟩
  clear C2
  have hb02 := HB1.out.trans (hb2.mono HB1.out.size)
  obtain ⟨A2, N2, C2, rfl⟩ := own_sl ho
  have hn2 := ho.len
  rw [keysV_length] at hn2
  subst hn2
  have HB2 := Lib.hid hb02
  have HO2 := Lib.hid ho
  have HOK := Lib.hid hok
  have HPW := Lib.hid hpw
  clear hb2 hb02 ho hok hpw HB1
  obtain ⟨S, hS, hS2⟩ : ∃ S : Nat, (IntKind.u64.wrap seed).tmod 977 = (S : Int) ∧ S < 977 := by
    have h0 : 0 ≤ IntKind.u64.wrap seed := by rw [IntKind.wrap_u64]; omega
    exact ⟨((IntKind.u64.wrap seed) % 977).toNat, by rw [Int.tmod_eq_emod_of_nonneg h0]; omega, by omega⟩
  go_wp2
  go_loopw [8, 36] (fun s8 s36 wr => ∃ (i : Nat) (A8 : Option Addr) (N8 C8 : Nat), s8 = .slice A8 N8 C8 ∧ s36 = .int .i64 i ∧ i ≤ ks.length ∧ N8 = i ∧ RowE wr w2.heap.size (.slice A8 N8 C8) (fE S (ks.take i)) ∧ Below w2.heap.size w2 wr) (fun _ s36 _ => ks.length - (intOf s36).toNat)
  case atStart => exact ⟨0, none, 0, 0, rfl, rfl, Nat.zero_le _, rfl, rowE_nil _ _, Below.refl _ _⟩
  case round =>
    obtain ⟨i, A8, N8, C8, rfl, rfl, hi, rfl, hrow, hb⟩ := hrel
    by_cases hlt : N8 < ks.length
    · have ho := HO2.out.below hb (Nat.le_refl _)
      obtain ⟨g, rfl⟩ := ho.someAt (by omega)
      have hx := ho.get (keysV_get (l := ks) (j := N8) hlt)
      have htk : fE S (ks.take (N8 + 1)) = fE S (ks.take N8) ++ [⟨strOf ks[N8], ((S + 131 * N8 : Nat) : Int) % 300, ((S + 131 * N8 : Nat) : Int) % 70000, (((S + 131 * N8) * 251 : Nat) : Int) % 2147483648, ((S + 131 * N8 : Nat) : Int) % 128⟩] := entsF_take _ _ _ _ ks N8 hlt
      obtain ⟨kx, hkx⟩ : ∃ kx, strOf ks[N8] = kx := ⟨_, rfl⟩
      rw [hkx] at hx htk
      have hl8 : (fE S (ks.take N8)).length ≤ 1000000000 := by unfold fE; rw [entsF_length, List.length_take]; omega
      have hz := hb.size
      have j1 : (N8 : Int) < (ks.length : Int) := by omega
      obtain ⟨m, hm⟩ : ∃ m, 131 * N8 = m := ⟨_, rfl⟩
      obtain ⟨p, hp⟩ : ∃ p, S + m = p := ⟨_, rfl⟩
      obtain ⟨p2, hp2⟩ : ∃ p2, p * 251 = p2 := ⟨_, rfl⟩
      rw [hm, hp, hp2] at htk
      have m1 : IntKind.i64.wrap (131 * (N8 : Int)) = (m : Int) := by rw [IntKind.wrap_i64]; omega
      have m2 : IntKind.i64.wrap ((S : Int) + (m : Int)) = (p : Int) := by rw [IntKind.wrap_i64]; omega
      have m3 : IntKind.i64.wrap ((p : Int) * 251) = (p2 : Int) := by rw [IntKind.wrap_i64]; omega
      have m4 := andE127 p (by omega)
      have HTK := Lib.hid htk
      have HROW := Lib.hid hrow
      have HB := Lib.hid hb
      have HL8 := Lib.hid hl8
      have HM := Lib.hid (And.intro hm (And.intro hp hp2))
      clear htk hkx hrow ho hb hl8 hm hp hp2
      go_wp2_with (at_builtin; with_reducible refine apE HROW.out HL8.out hz rfl _ _ rfl rfl rfl ?_)
      intro v9 w9 hrow9 hg9
      have hb9 := HROW.out.grown hg9 HB.out (Nat.le_refl _)
      rw [← HTK.out] at hrow9
      obtain ⟨A9, C9, rfl⟩ := hrow9.sl
      have hl9 : (fE S (ks.take (N8 + 1))).length = N8 + 1 := by unfold fE; rw [entsF_length, List.length_take]; omega
      rw [hl9] at hrow9
      rw [hl9]
      have HROW9 := Lib.hid hrow9
      have HB9 := Lib.hid hb9
      clear hrow9 hg9 hb9 hl9 m1 m2 m3 m4
      go_wp2
      go_roundw
      case rel => exact ⟨N8 + 1, A9, N8 + 1, C9, rfl, by go_num, by omega, rfl, HROW9.out, HB9.out⟩
      case measure => simp [intOf]; omega
    · obtain rfl : N8 = ks.length := by omega
      have j1 : ¬ ((ks.length : Int) < (ks.length : Int)) := by omega
      rw [List.take_length] at hrow
      have hel : (fE S ks).length = ks.length := entsF_length _ _ _ _ ks
      have hoke : ∀ e ∈ fE S ks, entOk e = true := entsF_ok HOK.out (fun i hi => ⟨decide_eq_true (by omega), decide_eq_true (by omega), decide_eq_true (by omega), decide_eq_true (by omega)⟩)
      have hris : rising none (fE S ks) := entsF_rising HPW.out
      obtain ⟨es, hes⟩ : ∃ es, fE S ks = es := ⟨_, rfl⟩
      have hK : ∀ (i : Nat) (h : i < ks.length) (h' : i < es.length), es[i].K = ks[i] := fun i h h' => by subst hes; exact entsF_K _ _ _ _ ks i h
      rw [hes] at hrow hel hoke hris
      have him := image_most (l := es) (by omega) hoke
      have C3 := build_any wr A8 ks.length C8 es hrow.rd hrow.cap (by omega) (fun _ => him) EA (HS.out.below (HB2.out.trans (hb.mono HB2.out.size))).derr.r
      have hpp := parse_put hoke hris (by omega)
      have HPP := Lib.hid hpp
      have HIM := Lib.hid him
      have HOKE := Lib.hid hoke
      have HRIS := Lib.hid hris
      have HK := Lib.hid hK
      have HROW := Lib.hid hrow
      have HB := Lib.hid hb
      have HEL := Lib.hid hel
      clear hoke hris hK hrow hb hes hpp him hel HOK HPW hi
      go_wp2_with fail
      refine C3.mono ?_
      rintro e w3 ⟨c0, _, _⟩
      clear C3
      obtain ⟨v3, rfl, ho3, hb3⟩ := c0 HOKE.out HRIS.out
      obtain ⟨A3, N3, X3, rfl⟩ := own_sl ho3
      have hb23 := HB.out.trans (hb3.mono HB.out.size)
      have C4 := open_any w3 A3 N3 X3 (imageB es) ho3.rd HIM.out EA (HS.out.below (HB2.out.trans (hb23.mono HB2.out.size))).derr
      rw [HPP.out] at C4
      have hrow3 := HROW.out.below hb3 (Nat.le_refl _)
      have HROW3 := Lib.hid hrow3
      have HB3 := Lib.hid hb23
      clear c0 ho3 hb3 hb23 hrow3 HROW HB
      go_wp2_with fail
      refine C4.mono ?_
      rintro e w4 ⟨hy, _⟩
      clear C4
      obtain ⟨q, v, rfl, hd4, hb4⟩ := hy es rfl
      have hb24 := HB3.out.trans (hb4.mono HB3.out.size)
      have hrow4 := HROW3.out.below hb4 (Nat.le_refl _)
      have C5 := dlen_any w4 _ q v es hd4
      rw [HEL.out] at C5
      have HROW4 := Lib.hid hrow4
      have HB4 := Lib.hid hb24
      have HD4 := Lib.hid hd4
      clear hy hb4 hb24 hrow4 hd4 HROW3 HB3
      go_wp2_with fail
      refine C5.mono ?_
      rintro e w5 ⟨rfl, rfl⟩
      clear C5
      go_wp2
      obtain ⟨wo, rfl⟩ : ∃ wo : World, wo = w4 := ⟨_, rfl⟩
      go_loopw [90] (fun s90 wr => ∃ (i : Nat), s90 = .int .i64 i ∧ i ≤ ks.length ∧ Below wo.heap.size wo wr) (fun s90 _ => ks.length - (intOf s90).toNat)
      case atStart => exact ⟨0, rfl, Nat.zero_le _, Below.refl _ _⟩
      case round =>
        obtain ⟨i, rfl, hi, hb⟩ := hrel
        have hdr := HD4.out.below hb (Nat.le_refl _)
        by_cases hlt : i < ks.length
        · have hel := HEL.out
          obtain ⟨g, rfl, _, _, _, hat⟩ := (HROW4.out.below hb (Nat.le_refl _)).head (by omega)
          have hie : i < es.length := by omega
          have hati := hat i hie
          have hfa := find_at HRIS.out (es[i]).K i hie rfl
          have hsa := seek_at HRIS.out i hie
          obtain ⟨x, hx⟩ : ∃ x, es[i] = x := ⟨_, rfl⟩
          rw [hx] at hati hfa hsa
          obtain ⟨ek, ed, et, ea, es'⟩ := x
          unfold EntV.K at hfa hsa
          simp only at hfa hsa
          have d0 := hati.k
          have d1 := hati.d
          have d2 := hati.t
          have d3 := hati.a
          have d4 := hati.s
          simp only at d0 d1 d2 d3 d4
          have C7 := find_any (wr.alloc (.cells #[.string ek, .int .i64 ed, .int .i64 et, .int .i64 ea, .int .i64 es'] 32)) _ q v es (hdr.below ((Below.refl _ _).alloc (Nat.le_refl _) _) (Nat.le_refl _)) HRIS.out (by omega) ek
          rw [hfa] at C7
          simp only at C7
          have i1 : (i : Int) < (ks.length : Int) := by omega
          have e1 := heap_alloc_new wr (.cells #[.string ek, .int .i64 ed, .int .i64 et, .int .i64 ea, .int .i64 es'] 32)
          have c0 : (wr.alloc (.cells #[.string ek, .int .i64 ed, .int .i64 et, .int .i64 ea, .int .i64 es'] 32)).cell? ⟨wr.heap.size, 0, none⟩ = some (.string ek) := blk_cell e1 0
          have hz1 : (wr.alloc (.cells #[.string ek, .int .i64 ed, .int .i64 et, .int .i64 ea, .int .i64 es'] 32)).heap.size = wr.heap.size + 1 := by simp
          have hb7 := hb.alloc hb.size (.cells #[.string ek, .int .i64 ed, .int .i64 et, .int .i64 ea, .int .i64 es'] 32)
          have HX := Lib.hid hx
          have HSA := Lib.hid hsa
          have HIE := Lib.hid hie
          have HE1 := Lib.hid e1
          have HZ1 := Lib.hid hz1
          have HB7 := Lib.hid hb7
          clear hat hati hfa hsa hx hb hdr e1 hz1 hb7
          go_wp2_with fail
          refine C7.mono ?_
          rintro e w5 ⟨rfl, hb5⟩
          clear C7 d0 d1 d2 d3 d4 c0
          have e5 := (hb5.block wr.heap.size (by rw [HZ1.out]; omega)).trans HE1.out
          have hb05 := HB7.out.trans (hb5.mono HB7.out.size)
          have C8 := at_in w5 _ q v es (HD4.out.below hb05 (Nat.le_refl _)) (by omega) i HIE.out
          rw [HX.out] at C8
          unfold EntV.cells at C8
          simp only at C8
          have HB5 := Lib.hid hb05
          have HE5 := Lib.hid e5
          clear hb5 hb05 e5 HB7 HE1 HZ1
          go_wp2_with fail
          refine C8.mono ?_
          rintro e w6 ⟨rfl, hb6⟩
          clear C8
          have e6 := (hb6.block wr.heap.size (lt_of_heap HE5.out)).trans HE5.out
          have hb06 := HB5.out.trans (hb6.mono HB5.out.size)
          have e7 := heap_alloc_new w6 (.cells #[.string ek, .int .i64 ed, .int .i64 et, .int .i64 ea, .int .i64 es'] 32)
          have e8 := (Below.heap_alloc w6 (.cells #[.string ek, .int .i64 ed, .int .i64 et, .int .i64 ea, .int .i64 es'] 32) _ (lt_of_heap e6)).trans e6
          have hb7 := hb06.alloc hb06.size (.cells #[.string ek, .int .i64 ed, .int .i64 et, .int .i64 ea, .int .i64 es'] 32)
          have C9 := seek_any (w6.alloc (.cells #[.string ek, .int .i64 ed, .int .i64 et, .int .i64 ea, .int .i64 es'] 32)) _ q v es (HD4.out.below hb7 (Nat.le_refl _)) HRIS.out (by omega) ek
          rw [HSA.out] at C9
          have HB7 := Lib.hid hb7
          have x0 := blk_cell e7 0
          have x1 := blk_cell e7 1
          have x2 := blk_cell e7 2
          have x3 := blk_cell e7 3
          have x4 := blk_cell e7 4
          have y0 := blk_cell e8 0
          have y1 := blk_cell e8 1
          have y2 := blk_cell e8 2
          have y3 := blk_cell e8 3
          have y4 := blk_cell e8 4
          have heq := fun w => neq_ent w ⟨ek, ed, et, ea, es'⟩ ⟨ek, ed, et, ea, es'⟩
          rw [(entEq_iff _ _).2 rfl] at heq
          simp only [Bool.not_true] at heq
          have hgd := guard_ent
          clear e6 e7 e8 hb6 hb06 hb7 HB5 HE5
          go_wp2_with fail
          refine C9.mono ?_
          rintro e w7 ⟨rfl, hb7⟩
          clear C9 x0 x1 x2 x3 x4 y0 y1 y2 y3 y4 heq
          have HB8 := Lib.hid (HB7.out.trans (hb7.mono HB7.out.size))
          clear hb7
          go_wp2
          go_roundw
          case rel => exact ⟨i + 1, by go_num, by omega, HB8.out⟩
          case measure => simp [intOf]; omega
        · have i1 : ¬ ((i : Int) < (ks.length : Int)) := by omega
          have HB5 := Lib.hid hb
          clear hb hdr hi hlt
          go_wp2
          obtain ⟨wq, rfl⟩ : ∃ wq : World, wq = wr := ⟨_, rfl⟩
          go_loopw [135] (fun s135 wr => ∃ (i : Nat), s135 = .int .i64 i ∧ i ≤ qs.length ∧ Below wo.heap.size wo wr) (fun s135 _ => qs.length - (intOf s135).toNat)
          case atStart => exact ⟨0, rfl, Nat.zero_le _, HB5.out⟩
          case round =>
            clear HB5 i1
            obtain ⟨i, rfl, hi, hb⟩ := hrel
            by_cases hlt : i < qs.length
            · have hel := HEL.out
              have hbW := HB2.out.trans ((HB4.out.trans (hb.mono HB4.out.size)).mono HB2.out.size)
              obtain ⟨A0, c0, hv0, _, hg0⟩ := HQ.out.below hbW (Nat.le_refl _)
              injection hv0 with e1 e2 e3
              subst e1 e3
              obtain ⟨b, o, rfl, hc⟩ := hg0 (by rw [List.length_map]; omega)
              have hx := hc i (.string qs[i]) (by simp [hlt])
              obtain ⟨qz, hqz⟩ : ∃ s, qs[i] = s := ⟨_, rfl⟩
              rw [hqz] at hx
              have i1 : (i : Int) < (qs.length : Int) := by omega
              have C10 := seek_any wr _ q v es (HD4.out.below hb (Nat.le_refl _)) HRIS.out (by omega) qz
              have hsle := seekP_le es qz.data.toList
              have hmle := headsN_le es qz.data.toList
              have hpart := fun (t : Nat) (ht : t < ks.length) => (seek_part HRIS.out qz.data.toList t (by omega)).symm.trans (congrArg (Go.Op.bytesLess · qz.data.toList) (HK.out t ht (by omega)))
              have hpre := fun (t : Nat) (ht : t < ks.length) => (heads_part HRIS.out qz.data.toList t (by omega)).symm.trans (congrArg (pre qz.data.toList ·) (HK.out t ht (by omega)))
              have hfind := fun (w : World) (hd : DictAt w w3.heap.size q v es) => find_any w _ q v es hd HRIS.out (by omega) qz
              have hheads := fun (w : World) (hd : DictAt w w3.heap.size q v es) => heads_any w _ q v es hd HRIS.out (by omega) qz
              have hfp : findP es qz.data.toList = if h : seekP es qz.data.toList < ks.length then (if ks[seekP es qz.data.toList] = qz.data.toList then (seekP es qz.data.toList, true) else (0, false)) else (0, false) := by
                unfold findP
                by_cases h : seekP es qz.data.toList < ks.length
                · rw [dif_pos h, dif_pos (by omega), HK.out _ h]
                · rw [dif_neg h, dif_neg (by omega)]
              rw [hel] at hsle hmle
              obtain ⟨s, hs⟩ : ∃ s, seekP es qz.data.toList = s := ⟨_, rfl⟩
              obtain ⟨m, hm⟩ : ∃ m, s + headsN es qz.data.toList = m := ⟨_, rfl⟩
              simp only [hs, hm] at C10 hsle hmle hpart hpre hfp hheads
              have hsm : s ≤ m := by omega
              have HPART := Lib.hid hpart
              have HPRE := Lib.hid hpre
              have HFIND := Lib.hid hfind
              have HHEADS := Lib.hid hheads
              have HFP := Lib.hid hfp
              have HB := Lib.hid hb
              clear hpart hpre hfind hheads hfp hb hbW hg0 hc hqz hm e2
              go_wp2_with fail
              refine C10.mono ?_
              rintro e w5 ⟨rfl, hb5⟩
              clear C10 hx
              have hb05 := HB.out.trans (hb5.mono HB.out.size)
              have C11 := HHEADS.out w5 (HD4.out.below hb05 (Nat.le_refl _))
              have HB5 := Lib.hid hb05
              clear hb5 hb05
              go_wp2_with fail
              refine C11.mono ?_
              rintro e w6 ⟨rfl, hb6⟩
              clear C11
              have hb06 := HB5.out.trans (hb6.mono HB5.out.size)
              have C12 := HFIND.out w6 (HD4.out.below hb06 (Nat.le_refl _))
              obtain ⟨f, hf⟩ : ∃ f, findP es qz.data.toList = f := ⟨_, rfl⟩
              obtain ⟨fk, fo⟩ := f
              have hfp := HFP.out
              rw [hf] at C12 hfp
              simp only at C12
              have HFP2 := Lib.hid hfp
              have HB6 := Lib.hid hb06
              have t1 : decide (s < 0) = false := decide_eq_false (by omega)
              have t2 : decide (ks.length < s) = false := decide_eq_false (by omega)
              have t3 : decide (m < s) = false := decide_eq_false (by omega)
              have t4 : decide (ks.length < m) = false := decide_eq_false (by omega)
              clear hb6 hb06 hf hfp HFP HFIND HHEADS
              go_wp2_with fail
              refine C12.mono ?_
              rintro e w7 ⟨rfl, hb7⟩
              clear C12 t1 t2 t3 t4
              have hb07 := HB6.out.trans (hb7.mono HB6.out.size)
              have ho := HO2.out.below (HB4.out.trans (hb07.mono HB4.out.size)) (Nat.le_refl _)
              have HB7 := Lib.hid hb07
              have HO := Lib.hid ho
              clear hb7 hb07 ho HB6
              have hcase : (∃ (h : s < ks.length), ks[s] = qz.data.toList ∧ fk = s ∧ fo = true) ∨ (∃ (h : s < ks.length), ks[s] ≠ qz.data.toList ∧ fk = 0 ∧ fo = false) ∨ (¬ s < ks.length ∧ fk = 0 ∧ fo = false) := by
                have h9 := HFP2.out
                by_cases h : s < ks.length
                · rw [dif_pos h] at h9
                  by_cases h2 : ks[s] = qz.data.toList
                  · rw [if_pos h2] at h9; injection h9 with h9 h8; exact .inl ⟨h, h2, h9, h8⟩
                  · rw [if_neg h2] at h9; injection h9 with h9 h8; exact .inr (.inl ⟨h, h2, h9, h8⟩)
                · rw [dif_neg h] at h9; injection h9 with h9 h8; exact .inr (.inr ⟨h, h9, h8⟩)
              clear HFP2
              go_upto_region 33 with fail
              go_cut [207] (fun s207 wx => w7 = wx ∧ s207 = .bool false)
              case first =>
                rcases hcase with ⟨h, h2, rfl, rfl⟩ | ⟨h, h2, rfl, rfl⟩ | ⟨h, rfl, rfl⟩
                · obtain ⟨g, rfl⟩ := HO.out.someAt (by omega)
                  have hx := HO.out.get (keysV_get (l := ks) (j := fk) h)
                  have tq : ((strOf ks[fk]).toList == qz.toList) = true := by rw [strOf_toList, h2, ba_list]; simp
                  obtain ⟨kx, hkx⟩ : ∃ kx, strOf ks[fk] = kx := ⟨_, rfl⟩
                  rw [hkx] at hx tq
                  have j1 : (fk : Int) < (ks.length : Int) := by omega
                  have j2 : decide (fk < ks.length) = true := decide_eq_true h
                  clear hkx h2 h
                  go_wp2
                  all_goals go_meet
                  all_goals exact ⟨rfl, rfl⟩
                · obtain ⟨g, rfl⟩ := HO.out.someAt (by omega)
                  have hx := HO.out.get (keysV_get (l := ks) (j := s) h)
                  have tq : ((strOf ks[s]).toList == qz.toList) = false := by rw [strOf_toList, ba_list]; simpa using h2
                  obtain ⟨kx, hkx⟩ : ∃ kx, strOf ks[s] = kx := ⟨_, rfl⟩
                  rw [hkx] at hx tq
                  have j1 : (s : Int) < (ks.length : Int) := by omega
                  have j2 : decide (s < ks.length) = true := decide_eq_true h
                  clear hkx h2 h
                  go_wp2
                  all_goals go_meet
                  all_goals exact ⟨rfl, rfl⟩
                · have j2 : decide (s < ks.length) = false := decide_eq_false h
                  clear h
                  go_wp2
                  all_goals go_meet
                  all_goals exact ⟨rfl, rfl⟩
              case rest =>
              clear hcase
              obtain ⟨rfl, rfl⟩ := hcut
              go_wp2
              obtain ⟨wz, rfl⟩ : ∃ wz : World, wz = wr := ⟨_, rfl⟩
              go_loopw [210] (fun s210 wr => ∃ (t : Nat), s210 = .int .i64 t ∧ t ≤ ks.length ∧ wr = w7) (fun s210 _ => ks.length - (intOf s210).toNat)
              case atStart => exact ⟨0, rfl, Nat.zero_le _, rfl⟩
              case round =>
                obtain ⟨t, rfl, ht, rfl⟩ := hrel
                by_cases hlt2 : t < ks.length
                · obtain ⟨g, rfl⟩ := HO.out.someAt (by omega)
                  have hx := HO.out.get (keysV_get (l := ks) (j := t) hlt2)
                  have T1 := HPART.out t hlt2
                  have T2 := HPRE.out t hlt2
                  have C13 := Tryd.strings_HasPrefix (strOf ks[t]) qz wr
                  rw [hasPre] at C13
                  rw [show (strOf ks[t]).data.toList = ks[t] from rfl, ← T2] at C13
                  have T3 : Go.Op.bytesLess (strOf ks[t]).toList qz.toList = decide (t < s) := by rw [strOf_toList, ba_list]; exact T1.symm
                  obtain ⟨kx, hkx⟩ : ∃ kx, strOf ks[t] = kx := ⟨_, rfl⟩
                  rw [hkx] at hx C13 T3
                  have j1 : (t : Int) < (ks.length : Int) := by omega
                  clear hkx T1 T2
                  by_cases h1 : t < s
                  · have t1 : decide (t < s) = true := decide_eq_true h1
                    have t2 : decide (s ≤ t) = false := decide_eq_false (by omega)
                    rw [t1] at T3
                    rw [t2, Bool.false_and] at C13
                    go_wp2_with fail
                    refine C13.mono ?_
                    rintro e w8 ⟨rfl, rfl⟩
                    clear C13 T3 hx
                    go_wp2
                    go_roundw
                    case rel => exact ⟨t + 1, by go_num, by omega, by first | rfl | trivial⟩
                    case measure => simp [intOf]; omega
                  · have t1 : decide (t < s) = false := decide_eq_false h1
                    have t2 : decide (s ≤ t) = true := decide_eq_true (by omega)
                    rw [t1] at T3
                    rw [t2, Bool.true_and] at C13
                    by_cases h2 : t < m
                    · have t3 : decide (t < m) = true := decide_eq_true h2
                      rw [t3] at C13
                      go_wp2_with fail
                      refine C13.mono ?_
                      rintro e w8 ⟨rfl, rfl⟩
                      clear C13 T3 hx
                      go_wp2
                      go_roundw
                      case rel => exact ⟨t + 1, by go_num, by omega, by first | rfl | trivial⟩
                      case measure => simp [intOf]; omega
                    · have t3 : decide (t < m) = false := decide_eq_false h2
                      rw [t3] at C13
                      go_wp2_with fail
                      refine C13.mono ?_
                      rintro e w8 ⟨rfl, rfl⟩
                      clear C13 T3 hx
                      go_wp2
                      go_roundw
                      case rel => exact ⟨t + 1, by go_num, by omega, by first | rfl | trivial⟩
                      case measure => simp [intOf]; omega
                · have j1 : ¬ ((t : Int) < (ks.length : Int)) := by omega
                  clear hlt2 ht HPART HPRE
                  go_wp2
                  go_roundw
                  case rel => exact ⟨i + 1, by go_num, by omega, HB7.out⟩
                  case measure => simp [intOf]; omega
            · have i1 : ¬ ((i : Int) < (qs.length : Int)) := by omega
              have hbW := (HB2.out.trans ((HB4.out.trans (hb.mono HB4.out.size)).mono HB2.out.size))
              have HBW := Lib.hid hbW
              clear hb hbW hi hlt
              go_wp2
              go_ret
              exact ⟨rfl, HBW.out⟩
end Go.Proofs.YtfeldllcpeibcaaDoor
