/- cursor: PhraseFreq. -/
import Derived.Test.YtaijepjhmjjecaaDoorZG20
import Derived.Test.YtaijepjhmjjecaaDoorZG21
namespace Go.Proofs.YtaijepjhmjjecaaDoor
set_option linter.unusedVariables false
open Go.ChangeShapes Go.WideShapes Go.ChangeAt Go.RowKit

def srtI (l : List Int) : List Int := l.mergeSort fun x y => decide (x ≤ y)
theorem srtI_len (l : List Int) : (srtI l).length = l.length := by simp [srtI]
theorem madeNil (n : Nat) : madeCells #[.slice none 0 0] n = ((List.range n).map fun _ => (Value.slice none 0 0)).toArray := by
  refine Array.ext (by rw [size_madeCells]; simp) fun i h1 h2 => ?_
  simp [madeCells, Nat.mod_one]
/-- What the outer loop has done. -/
structure PhI (ls : List (List Int)) (os : List Int) (i : Nat) (ys : Nat → List Int) (al : List Int) : Prop where
  ok : ∀ (j : Nat) (h : j < ls.length) (h2 : j < os.length), j < i → okN os[j] = true ∧ ls[j].all okN = true
  done : ∀ (k : Nat) (h : k < ls.length) (h2 : k < os.length), k < i → ys k = srtI (shiftL os[k] ls[k])
  rest : ∀ k, i ≤ k → ys k = []
  all : ∀ z, z ∈ al ↔ z ∈ ((movedV ls os).take i).flatten
  len : al.length ≤ sumL (ls.take i)
theorem sumL_succ {ls : List (List Int)} {i : Nat} (h : i < ls.length) : sumL (ls.take (i + 1)) = sumL (ls.take i) + ls[i].length := by
  unfold sumL
  rw [List.take_succ_eq_append_getElem h, List.map_append, List.sum_append]
  simp
theorem PhI.start (ls : List (List Int)) (os : List Int) : PhI ls os 0 (fun _ => []) [] :=
  ⟨fun j h h2 h9 => by omega, fun k h h2 h9 => by omega, fun k h => rfl, fun z => by simp, Nat.zero_le _⟩
theorem PhI.next {ls : List (List Int)} {os : List Int} (hlo : ls.length = os.length) {i : Nat} {ys ys2 : Nat → List Int} {al : List Int} (h : PhI ls os i ys al) (hi : i < ls.length) (hi2 : i < os.length) (h1 : okN os[i] = true) (h2 : ls[i].all okN = true)
    (hy : ∀ k, ys2 k = if k = i then srtI (shiftL os[i] ls[i]) else ys k) : PhI ls os (i + 1) ys2 (al ++ srtI (shiftL os[i] ls[i])) := by
  refine ⟨fun j hj hj2 h9 => ?_, fun k hk hk2 h9 => ?_, fun k hk => ?_, fun z => ?_, ?_⟩
  · rcases Nat.lt_or_eq_of_le (show j ≤ i by omega) with h10 | h10
    · exact h.ok j hj hj2 h10
    · subst h10; exact ⟨h1, h2⟩
  · rw [hy]
    by_cases e : k = i
    · subst e; rw [if_pos rfl]
    · rw [if_neg e]; exact h.done k hk hk2 (by omega)
  · rw [hy, if_neg (by omega)]; exact h.rest k (by omega)
  · rw [movedV_take_succ hlo hi, List.flatten_append, List.mem_append, List.mem_append, h.all]
    unfold srtI
    rw [sortI_mem]
    simp
  · rw [List.length_append, srtI_len, sumL_succ hi]
    unfold shiftL
    rw [List.length_map]
    have := h.len
    omega
theorem ph_count {ls : List (List Int)} {os : List Int} {slop : Int} {ys : Nat → List Int} {al : List Int} (hok : phOk ls os slop = true) (h : PhI ls os ls.length ys al) :
    cntV (Lib.compact (srtI al)) ((List.range ls.length).map ys) slop = phV ls os slop := by
  have hlo := phOk_len hok
  have hml := movedV_length ls os hlo
  unfold phV
  rw [if_pos hok]
  refine cntV_ext ?_ (by rw [List.length_map, List.length_range, hml]) fun i h1 h2 z => ?_
  · show Lib.compact (al.mergeSort fun x y => decide (x ≤ y)) = _
    rw [compact_sorted (sortI_le al)]
    refine riseOf_ext fun z => ?_
    rw [sortI_mem, h.all, List.take_of_length_le (by omega)]
  · have hi : i < ls.length := by omega
    rw [List.getElem_map, List.getElem_range, h.done i hi (by omega) hi, movedV_get ls os i hi (by omega) h2]
    exact sortI_mem _ z
theorem shiftL_snoc (x : Int) (l : List Int) {j : Nat} (h : j < l.length) : shiftL x (l.take (j + 1)) = shiftL x (l.take j) ++ [l[j] - x] := by
  unfold shiftL
  rw [List.take_succ_eq_append_getElem h, List.map_append]; rfl
set_option maxRecDepth 100000 in
set_option maxHeartbeats 16000000 in
theorem ph_any (w : World) (a : Option Addr) (n c : Nat) (ls : List (List Int)) (hL : RdLL w a n ls) (a2 : Option Addr) (n2 c2 : Nat) (os : List Int) (hO : Rd w (.slice a2 n2 c2) (intL os)) (slop : Int) (hsum : sumL ls ≤ 10000000) (hln : ls.length ≤ 10000000) (hol : os.length ≤ 10000000) :
    Calls Tryd.prog 10 #[.slice a n c, .slice a2 n2 c2, .int .i64 slop] w fun e w' => e = .returned (.int .i64 (phV ls os slop : Nat)) ∧ Below w.heap.size w w' := by
  obtain rfl := hL.1
  obtain ⟨rfl, hOc⟩ := rd_il hO
  have HL := Lib.hid hL
  have HO := Lib.hid hO
  by_cases hbase : ls.length = 0 ∨ ls.length ≠ os.length ∨ slop < 0 ∨ 2147483647 < slop
  · have hno : phOk ls os slop = false := by
      rw [Bool.eq_false_iff]
      intro h9
      unfold phOk at h9
      simp only [Bool.and_eq_true, decide_eq_true_eq] at h9
      have : ls ≠ [] := h9.1.1.1.1
      have : 0 < ls.length := List.length_pos_iff.2 this
      omega
    have hv : phV ls os slop = 0 := by unfold phV; rw [if_neg (by rw [hno]; decide)]
    rw [hv]
    clear hL hO hOc hno hv
    by_cases h0 : ls.length = 0
    · have t0 : ((ls.length : Int) == 0) = true := by rw [h0]; rfl
      clear hbase h0
      go_enter Tryd.func10, Tryd.ntmps10
      go_wp2
      go_ret
      exact ⟨rfl, Below.refl _ _⟩
    · have t0 : ((ls.length : Int) == 0) = false := beq_false_of_ne (by omega)
      by_cases h1 : ls.length = os.length
      · have t1 : ((ls.length : Int) != (os.length : Int)) = false := by rw [h1]; simp
        by_cases h2 : slop < 0
        · have t2 : decide (slop < 0) = true := decide_eq_true h2
          clear hbase h0 h1
          go_enter Tryd.func10, Tryd.ntmps10
          go_wp2
          go_ret
          exact ⟨rfl, Below.refl _ _⟩
        · have t2 : decide (slop < 0) = false := decide_eq_false h2
          have t3 : decide (2147483647 < slop) = true := decide_eq_true (by omega)
          clear hbase h0 h1
          go_enter Tryd.func10, Tryd.ntmps10
          go_wp2
          go_ret
          exact ⟨rfl, Below.refl _ _⟩
      · have t1 : ((ls.length : Int) != (os.length : Int)) = true := by simp; omega
        clear hbase h0 h1
        go_enter Tryd.func10, Tryd.ntmps10
        go_wp2
        go_ret
        exact ⟨rfl, Below.refl _ _⟩
  · have hlo : os.length = ls.length := by omega
    have t0 : ((ls.length : Int) == 0) = false := beq_false_of_ne (by omega)
    have t1 : ((ls.length : Int) != (os.length : Int)) = false := by rw [hlo]; simp
    have t2 : decide (slop < 0) = false := decide_eq_false (by omega)
    have t3 : decide (2147483647 < slop) = false := decide_eq_false (by omega)
    have hs0 : 0 ≤ slop := by omega
    have hs1 : slop ≤ 2147483647 := by omega
    have hl0 : 0 < ls.length := by omega
    have hmk := make_row (P := Tryd.prog) elLL rfl ls.length (by omega) (ls.length : Int) rfl
    have hst0 : PhS w (w.alloc (.cells (madeCells #[.slice none 0 0] ls.length) 23)) w.heap.size ls.length (.slice none 0 0) (fun _ => .slice none 0 0) (fun _ => []) [] := by
      have h9 := own_lit w w.heap.size 23 ((List.range ls.length).map fun _ => (Value.slice none 0 0)) (Nat.le_refl _) (by rw [List.length_map, List.length_range]; unfold maxLen; omega)
      rw [← madeNil, List.length_map, List.length_range] at h9
      exact ⟨h9, fun k hk => own_nil _ _ _, fun k l b hk hl hne h => by simp [Value.ownBlock] at h, own_nil _ _ _, fun k b hk h => by simp [Value.ownBlock] at h, (Below.refl _ _).alloc (Nat.le_refl _) _⟩
    have HLO := Lib.hid hlo
    have HOC := Lib.hid hOc
    have HST0 := Lib.hid hst0
    clear hL hO hOc hbase hlo hst0
    go_enter Tryd.func10, Tryd.ntmps10
    go_upto_region 5 with fail
    generalize w.alloc (.cells (madeCells #[.slice none 0 0] ls.length) 23) = w1 at HST0 ⊢
    clear hmk
    generalize w.heap.size = g at HST0 ⊢
    go_wp2
    go_loopw [7, 9, 10, 12, 36] (fun s7 s9 s10 s12 s36 wr => ∃ (i : Nat) (A : Option Addr) (NA CA : Nat) (t9 t10 t12 : Value) (vs : Nat → Value) (ys : Nat → List Int) (al : List Int), s7 = .slice A NA CA ∧ s9 = t9 ∧ s10 = t10 ∧ s12 = t12 ∧ s36 = .int .i64 (i : Nat) ∧ i ≤ ls.length ∧ RowKit.Hid (PhS w wr g ls.length (.slice A NA CA) vs ys al) ∧ RowKit.Hid (PhI ls os i ys al)) (fun _ _ _ _ s36 _ => ls.length - (intOf s36).toNat)
    case atStart => exact ⟨0, none, 0, 0, _, _, _, _, _, _, rfl, rfl, rfl, rfl, rfl, Nat.zero_le _, HST0, Lib.hid (PhI.start ls os)⟩
    case round =>
      clear HST0
      obtain ⟨i, A, NA, CA, t9, t10, t12, vs, ys, al, rfl, rfl, rfl, rfl, rfl, hi, HST, HI⟩ := hrel
      by_cases hlt : i < ls.length
      · have hlt2 : i < os.length := by have := HLO.out; omega
        obtain ⟨bo, oo, rfl, hco⟩ := HOC.out (by omega)
        have co0 := hco i hlt2
        have co := (HST.out.below.cell (p := ⟨bo, oo + i, none⟩) (World.block_lt_of_cell? w _ co0)).trans co0
        obtain ⟨bl, ol, rfl, hcl⟩ := HL.out.2 hl0
        obtain ⟨A2, C2, cl0, hrl⟩ := hcl i hlt
        have cl := (HST.out.below.cell (p := ⟨bl, ol + i, none⟩) (World.block_lt_of_cell? w _ cl0)).trans cl0
        have hli := sumL_get hlt
        have hbo := phOk_bad_o (ls := ls) (s := slop) hlt2
        have i1 : (i : Int) < (ls.length : Int) := by omega
        have i2 : (i : Int) < (os.length : Int) := by omega
        obtain ⟨x, hx⟩ : ∃ x, os[i] = x := ⟨_, rfl⟩
        rw [hx] at co co0 hbo
        cases hxo : okN x with
        | false =>
          have hno := hbo hxo
          have hv : phV ls os slop = 0 := by unfold phV; rw [if_neg (by rw [hno]; decide)]
          have HV := Lib.hid hv
          have HB := Lib.hid HST.out.below
          rcases okN_no hxo with h9 | h9
          · have u1 : decide (x < 0) = true := decide_eq_true h9
            clear hco hcl hrl hx hbo hxo hno hv HST HI h9 co0 cl0
            go_wp2
            go_ret
            exact ⟨by rw [HV.out]; rfl, HB.out⟩
          · have u1 : decide (x < 0) = false := decide_eq_false (by omega)
            have u2 : decide (2147483646 < x) = true := decide_eq_true (by omega)
            clear hco hcl hrl hx hbo hxo hno hv HST HI h9 co0 cl0
            go_wp2
            go_ret
            exact ⟨by rw [HV.out]; rfl, HB.out⟩
        | true =>
          have hx2 := okN_iff.1 hxo
          have u1 : decide (x < 0) = false := decide_eq_false (by omega)
          have u2 : decide (2147483646 < x) = false := decide_eq_false (by omega)
          obtain ⟨l, hle⟩ : ∃ l, ls[i] = l := ⟨_, rfl⟩
          have hbp := phOk_bad_l (os := os) (s := slop) hlt hle
          rw [hle] at cl cl0 hrl hli
          obtain ⟨-, hcx⟩ := rd_il hrl
          have HX := Lib.hid (show okN os[i] = true by rw [hx]; exact hxo)
          have HXE := Lib.hid hx
          have HLE := Lib.hid hle
          have HBP := Lib.hid hbp
          have HCX := Lib.hid hcx
          have HCO0 := Lib.hid co0
          have hye : ys i = [] := HI.out.rest i (Nat.le_refl _)
          have HYE := Lib.hid hye
          clear hco hcl hrl hx hbo hxo hle hbp hcx co0 cl0 hye
          go_wp2
          clear co cl
          go_loopw [12, 55] (fun s12 s55 wr => ∃ (j : Nat) (t12 : Value) (vs : Nat → Value) (ys2 : Nat → List Int), s12 = t12 ∧ s55 = .int .i64 (j : Nat) ∧ j ≤ l.length ∧ RowKit.Hid (∀ (k : Nat) (h : k < l.length), k < j → okN l[k] = true) ∧ RowKit.Hid (PhS w wr g ls.length (.slice A NA CA) vs ys2 al) ∧ RowKit.Hid (∀ k, ys2 k = if k = i then shiftL x (l.take j) else ys k)) (fun _ s55 _ => l.length - (intOf s55).toNat)
          case atStart => exact ⟨0, _, vs, ys, rfl, rfl, Nat.zero_le _, Lib.hid (fun k h h9 => by omega), HST, Lib.hid (fun k => by by_cases e : k = i <;> simp [e, HYE.out, shiftL])⟩
          case round =>
            clear HST
            obtain ⟨j, t12, vs, ys2, rfl, rfl, hj, HJ, HST, HY⟩ := hrel
            by_cases hjl : j < l.length
            · obtain ⟨bx, ox, rfl, hcx⟩ := HCX.out (by omega)
              have cx0 := hcx j hjl
              have cx := (HST.out.below.cell (p := ⟨bx, ox + j, none⟩) (World.block_lt_of_cell? w _ cx0)).trans cx0
              have hbp := HBP.out j hjl
              have hsn := shiftL_snoc x l hjl
              have j1 : (j : Int) < (l.length : Int) := by omega
              obtain ⟨y, hy⟩ : ∃ y, l[j] = y := ⟨_, rfl⟩
              rw [hy] at cx cx0 hbp hsn
              cases hyo : okN y with
              | false =>
                have hno := hbp hyo
                have hv : phV ls os slop = 0 := by unfold phV; rw [if_neg (by rw [hno]; decide)]
                have HV := Lib.hid hv
                have HB := Lib.hid HST.out.below
                rcases okN_no hyo with h9 | h9
                · have v1 : decide (y < 0) = true := decide_eq_true h9
                  clear hcx hy hbp hyo hno hv HJ HST HI h9 cx0 hsn
                  go_wp2
                  go_ret
                  exact ⟨by rw [HV.out]; rfl, HB.out⟩
                · have v1 : decide (y < 0) = false := decide_eq_false (by omega)
                  have v2 : decide (2147483646 < y) = true := decide_eq_true (by omega)
                  clear hcx hy hbp hyo hno hv HJ HST HI h9 cx0 hsn
                  go_wp2
                  go_ret
                  exact ⟨by rw [HV.out]; rfl, HB.out⟩
              | true =>
                have hy2 := okN_iff.1 hyo
                have v1 : decide (y < 0) = false := decide_eq_false (by omega)
                have v2 : decide (2147483646 < y) = false := decide_eq_false (by omega)
                have hj2 : ∀ (k : Nat) (h : k < l.length), k < j + 1 → okN l[k] = true := fun k h h9 => by
                  rcases Nat.lt_or_eq_of_le (show k ≤ j by omega) with h10 | h10
                  · exact HJ.out k h h10
                  · subst h10; rw [hy]; exact hyo
                have hst1 := HST.out.drewN 1
                have hoi := hst1.own i hlt
                obtain ⟨av, nv, cv, hvv⟩ := own_sl hoi
                have hci := hst1.cell hlt
                have hyi : ys2 i = shiftL x (l.take j) := by rw [HY.out, if_pos rfl]
                have hlen9 : (intL (ys2 i)).length < 1000000000000 := by
                  rw [intL_length, hyi]; unfold shiftL; rw [List.length_map, List.length_take]; omega
                have hbz : w.heap.size ≤ wr.drew.heap.size := hst1.below.size
                have co := ((hst1.below.cell (p := ⟨bo, oo + i, none⟩) (World.block_lt_of_cell? w _ HCO0.out)).trans HCO0.out)
                have co' : wr.cell? ⟨bo, oo + i, none⟩ = some (.int .i64 x) := co
                have hci' : wr.cell? ⟨g, i, none⟩ = some (vs i) := hci
                rw [hvv] at hci hci'
                have hca : ∀ o : Obj, (wr.alloc o).cell? ⟨g, i, none⟩ = some (.slice av nv cv) := fun o => alloc_cell o hci'
                have hcb : ∀ o : Obj, (wr.alloc o).cell? ⟨bo, oo + i, none⟩ = some (.int .i64 x) := fun o => alloc_cell o co'
                have s1 : IntKind.i64.wrap (y - x) = y - x := by rw [IntKind.wrap_i64]; omega
                rw [hvv] at hoi
                have hpush := fun (w1 : World) (v1 : Value) => hst1.push (w1 := w1) (v1 := v1) (x := y - x) hlt
                have hgb : (vs i).ownBlock = (Value.slice av nv cv).ownBlock := by rw [hvv]
                rw [hvv] at hpush
                have HPUSH := Lib.hid hpush
                have HJ2 := Lib.hid hj2
                have HSN := Lib.hid hsn
                clear hcx hy hbp hyo hj2 hsn cx0 HJ hst1 hpush hvv hgb hci hy2
                go_upto_region 15 with fail
                go_region_law (refine step_ap1' elIL rfl hoi hlen9 hbz rfl (.tmp 70) (.tmp 77) rfl rfl rfl ?_; intro v1 w1 g1 g2 g3 g4; obtain ⟨a1, n1, c1, rfl⟩ := own_sl g1; obtain ⟨hst2, hc1, hf1⟩ := HPUSH.out w1 _ g1 g3 g4)
                all_goals
                  have hyy : ∀ k, (if k = i then ys2 i ++ [y - x] else ys2 k) = if k = i then shiftL x (l.take (j + 1)) else ys k := fun k => by
                    by_cases e : k = i
                    · rw [if_pos e, if_pos e, hyi, HSN.out]
                    · rw [if_neg e, if_neg e, HY.out, if_neg e]
                  have HST2 := Lib.hid hst2
                  have HYY := Lib.hid hyy
                  clear hst2 g1 g2 g3 g4 hyy hyi
                  go_wp2
                  go_roundw
                  case rel => exact ⟨j + 1, _, _, _, rfl, by go_num, by omega, HJ2, HST2, HYY⟩
                  case measure => simp [intOf]; omega
            · obtain rfl : j = l.length := by omega
              have j1 : ¬ ((l.length : Int) < (l.length : Int)) := by omega
              have hoi := HST.out.own i hlt
              have hyi : ys2 i = shiftL x l := by rw [HY.out, if_pos rfl, List.take_length]
              rw [hyi] at hoi
              obtain ⟨av, cv, hvv⟩ := own_slice hoi
              have hci := HST.out.cell hlt
              have hlS : (shiftL x l).length = l.length := by unfold shiftL; rw [List.length_map]
              rw [intL_length, hlS] at hvv
              have hover := fun (w1 : World) => HST.out.over (w1 := w1) (zs := srtI (shiftL x l)) hlt
              rw [hvv] at hoi hci hover
              have C1 := sorti_own wr w.heap.size av l.length cv (shiftL x l) hoi (by omega)
              have hIn := HI.out.next (HLO.out.symm) hlt hlt2 (ys2 := fun k => if k = i then srtI (shiftL x l) else ys k) HX.out (by
                rw [HLE.out, List.all_eq_true]
                intro z hz
                obtain ⟨m, hm, rfl⟩ := List.mem_iff_getElem.1 hz
                exact HJ.out m hm hm) (fun k => by rw [HXE.out, HLE.out])
              rw [HXE.out, HLE.out] at hIn
              have hys : ∀ k, (if k = i then srtI (shiftL x l) else ys2 k) = if k = i then srtI (shiftL x l) else ys k := fun k => by
                by_cases e : k = i
                · rw [if_pos e, if_pos e]
                · rw [if_neg e, if_neg e, HY.out, if_neg e]
              have hysf : (fun k => if k = i then srtI (shiftL x l) else ys2 k) = fun k => if k = i then srtI (shiftL x l) else ys k := funext hys
              have hall := hIn.len
              rw [sumL_succ hlt, HLE.out] at hall
              have htk := sumL_take_le ls (i + 1)
              rw [sumL_succ hlt, HLE.out] at htk
              have hlen2 : al.length + l.length ≤ 10000000 := by rw [List.length_append, srtI_len, hlS] at hall; omega
              have HOVER := Lib.hid hover
              have HIN := Lib.hid hIn
              have HYF := Lib.hid hysf
              have HVV := Lib.hid hvv
              have HBEL := Lib.hid HST.out.below
              clear hoi hvv hover hIn hys hysf hall htk HJ HI HY hyi HST
              go_wp2_with fail
              with_reducible refine C1.mono ?_
              rintro e w5 ⟨rfl, ho5, hg5⟩
              clear C1 hci
              have ho5 : Own w5 w.heap.size 3 (.slice av l.length cv) (intL (srtI (shiftL x l))) := ho5
              have hst5 := HOVER.out w5 ho5 hg5
              rw [HYF.out] at hst5
              have hci5 := hst5.cell hlt
              rw [HVV.out] at hci5
              have hrd5 := ho5.rd
              have hl5 : (intL al).length + (intL (srtI (shiftL x l))).length < 1000000000001 := by
                rw [intL_length, intL_length, srtI_len, hlS]
                have : al.length + l.length < 1000000000001 := Nat.lt_of_le_of_lt hlen2 (by decide)
                exact this
              have hz5 := hst5.below.size
              have HST5 := Lib.hid hst5
              have HALL5 := Lib.hid hst5.all
              have HRD5 := Lib.hid hrd5
              have H1A := Lib.hid (intL_one (srtI (shiftL x l)))
              have HL5 := Lib.hid hl5
              clear hst5 hrd5 ho5 hg5 hl5 HOVER HYF HVV HBEL
              go_upto_region 18 with fail
              go_wp2_with (at_builtin; with_reducible refine apN elIL HALL5.out HRD5.out H1A.out HL5.out hz5 rfl _ _ rfl rfl rfl ?_)
              intro v6 w6 k1 k2 k3 k4
              rw [← intL_append] at k1
              have hst6 := HST5.out.grow k1 (k3.imp id (fun h => h.1)) k4
              obtain ⟨A6, N6, C6, rfl⟩ := own_sl k1
              have HST6 := Lib.hid hst6
              clear hst6 k1 k2 k3 k4 HST5 HALL5 HRD5 H1A HL5 hz5 hci5
              go_wp2
              go_roundw
              case rel => exact ⟨i + 1, A6, N6, C6, _, _, _, _, _, _, rfl, rfl, rfl, rfl, by go_num, by omega, HST6, HIN⟩
              case measure => simp [intOf]; omega
      · obtain rfl : i = ls.length := by omega
        have i1 : ¬ ((ls.length : Int) < (ls.length : Int)) := by omega
        have hok : phOk ls os slop = true := by
          have hlo := HLO.out
          unfold phOk
          simp only [Bool.and_eq_true, decide_eq_true_eq, List.all_eq_true]
          refine ⟨⟨⟨⟨List.length_pos_iff.1 hl0, by omega⟩, hs0⟩, hs1⟩, fun o ho => ?_, fun l hl x hx => ?_⟩
          · obtain ⟨m, hm, rfl⟩ := List.mem_iff_getElem.1 ho
            exact (HI.out.ok m (by omega) hm (by omega)).1
          · obtain ⟨m, hm, rfl⟩ := List.mem_iff_getElem.1 hl
            exact List.all_eq_true.1 (HI.out.ok m hm (by omega) hm).2 x hx
        have hcnt := ph_count hok HI.out
        have hall := HI.out.len
        rw [List.take_length] at hall
        have hNA := HST.out.all.len
        rw [intL_length] at hNA
        subst hNA
        have C1 := sorti_own wr w.heap.size A al.length CA al HST.out.all (by omega)
        have hbd : ∀ z ∈ Lib.compact (srtI al), -4294967296 ≤ z ∧ z ≤ 4294967296 := by
          intro z hz
          have hz2 : z ∈ al := by
            have h9 : Lib.compact (srtI al) = riseOf (srtI al) := compact_sorted (sortI_le al)
            rw [h9, riseOf_mem] at hz
            exact (sortI_mem al z).1 hz
          have hml := movedV_length ls os (HLO.out.symm)
          rw [HI.out.all, List.take_of_length_le (by omega)] at hz2
          obtain ⟨m, hm, hz⟩ := List.mem_flatten.1 hz2
          obtain ⟨k, hk, rfl⟩ := List.mem_iff_getElem.1 hm
          have hlo := HLO.out
          rw [movedV_get ls os k (by omega) (by omega) hk] at hz
          obtain ⟨y, hy, rfl⟩ := List.mem_map.1 hz
          unfold phOk at hok
          simp only [Bool.and_eq_true, decide_eq_true_eq, List.all_eq_true] at hok
          have h1 := okN_iff.1 (hok.2.2 _ (List.getElem_mem (show k < ls.length by omega)) y hy)
          have h2 := okN_iff.1 (hok.2.1 _ (List.getElem_mem (show k < os.length by omega)))
          omega
        have hms : ∀ (k : Nat) (h : k < ((List.range ls.length).map ys).length), (((List.range ls.length).map ys)[k]).Pairwise (· ≤ ·) ∧ (((List.range ls.length).map ys)[k]).length ≤ 10000000 := by
          intro k h
          have hk : k < ls.length := by simpa using h
          have hlo := HLO.out
          rw [List.getElem_map, List.getElem_range, HI.out.done k hk (by omega) hk]
          refine ⟨sortI_le _, ?_⟩
          have := sumL_get hk
          rw [srtI_len]
          unfold shiftL
          rw [List.length_map]
          omega
        have hcl := compact_len (srtI al)
        rw [srtI_len] at hcl
        have HCNT := Lib.hid hcnt
        have HBD := Lib.hid hbd
        have HMS := Lib.hid hms
        clear hok hcnt hbd hms HI
        go_wp2_with fail
        with_reducible refine C1.mono ?_
        rintro e w5 ⟨rfl, ho5, hg5⟩
        clear C1
        have ho5 : Own w5 w.heap.size 3 (.slice A al.length CA) (intL (srtI al)) := ho5
        have hst5 := HST.out.grow (zs := srtI al) ho5 (.inl rfl) hg5
        have C2 := compi_own w5 w.heap.size A al.length CA (srtI al) ho5 (by rw [srtI_len]; omega)
        have HST5 := Lib.hid hst5
        clear hst5 ho5 hg5 HST
        go_wp2_with fail
        with_reducible refine C2.mono ?_
        rintro e w6 ⟨n6, rfl, ho6, hg6⟩
        clear C2
        have hst6 := HST5.out.grow (A' := .slice A n6 CA) (zs := Lib.compact (srtI al)) ho6 (.inl (by cases A <;> rfl)) hg6
        have hrise : Rise (Lib.compact (srtI al)) := by
          have h9 : Lib.compact (srtI al) = riseOf (srtI al) := compact_sorted (sortI_le al)
          rw [h9]; exact riseOf_rise _
        have C3 := beg_any w6 A n6 CA (Lib.compact (srtI al)) ho6.rd hrise (some ⟨g, 0, none⟩) ls.length ls.length ((List.range ls.length).map ys) hst6.rdll HMS.out slop hs0 hs1 HBD.out (by omega) (by rw [List.length_map, List.length_range]; exact hln)
        rw [HCNT.out] at C3
        have HB6 := Lib.hid hst6.below
        clear hst6 ho6 hg6 hrise HST5
        go_wp2_with fail
        with_reducible refine C3.mono ?_
        rintro e w7 ⟨rfl, hb7⟩
        clear C3
        have HB7 := Lib.hid (HB6.out.trans (hb7.mono HB6.out.size))
        clear hb7
        go_wp2
        go_ret
        exact ⟨rfl, HB7.out⟩
end Go.Proofs.YtaijepjhmjjecaaDoor
