/- cursor: the document's PhraseFreq. -/
import Derived.Test.YtaijepjhmjjecaaDoorZG19
import Derived.Test.YtaijepjhmjjecaaDoorZG19
namespace Go.Proofs.YtaijepjhmjjecaaDoor
set_option linter.unusedVariables false
open Go.ChangeShapes Go.WideShapes Go.ChangeAt Go.RowKit

theorem elLL : Elem Tryd.prog 22 23 (.slice none 0 0) 24 := ⟨Tryd.underlying22, by kernel_rfl, rfl, by decide⟩
/-- A list of lists of ints that reads. -/
def RdLL (w : World) (a : Option Addr) (n : Nat) (ls : List (List Int)) : Prop :=
  n = ls.length ∧ (0 < ls.length → ∃ b o, a = some ⟨b, o, none⟩ ∧ ∀ (i : Nat) (h : i < ls.length), ∃ A C, w.cell? ⟨b, o + i, none⟩ = some (.slice A ls[i].length C) ∧ Rd w (.slice A ls[i].length C) (intL ls[i]))
theorem RdLL.drewN {w : World} {a : Option Addr} {n : Nat} {ls : List (List Int)} (h : RdLL w a n ls) (d : Nat) : RdLL (w.drewN d) a n ls := h
theorem RdLL.below {w w' : World} {a : Option Addr} {n B : Nat} {ls : List (List Int)} (h : RdLL w a n ls) (hb : Below B w w') (hB : w.heap.size ≤ B) : RdLL w' a n ls := by
  refine ⟨h.1, fun h0 => ?_⟩
  obtain ⟨b, o, e, hg⟩ := h.2 h0
  refine ⟨b, o, e, fun i hi => ?_⟩
  obtain ⟨A, C, h1, h2⟩ := hg i hi
  exact ⟨A, C, by rw [hb.cell (by have := World.block_lt_of_cell? w _ h1; exact Nat.lt_of_lt_of_le this hB)]; exact h1, h2.below hb hB⟩
/-- A list of lists of the call's own. -/
structure MvS (wr : World) (base : Nat) (mv : Value) (vs : List Value) (ms : List (List Int)) : Prop where
  top : Own wr base 23 mv vs
  len : vs.length = ms.length
  own : ∀ (k : Nat) (h : k < vs.length) (h2 : k < ms.length), Own wr base 3 vs[k] (intL ms[k])
theorem MvS.below {B : Nat} {w w' : World} {base : Nat} {mv : Value} {vs : List Value} {ms : List (List Int)} (h : MvS w base mv vs ms) (hb : Below B w w') (hB : w.heap.size ≤ B) : MvS w' base mv vs ms :=
  ⟨h.top.below hb hB, h.len, fun k h1 h2 => (h.own k h1 h2).below hb hB⟩
theorem MvS.drewN {w : World} {base : Nat} {mv : Value} {vs : List Value} {ms : List (List Int)} (h : MvS w base mv vs ms) (d : Nat) : MvS (w.drewN d) base mv vs ms := ⟨h.top.drewN d, h.len, fun k h1 h2 => (h.own k h1 h2).drewN d⟩
/-- One list more. -/
theorem MvS.snoc {wr w' : World} {base : Nat} {mv mv' v : Value} {vs : List Value} {ms : List (List Int)} {l : List Int} (h : MvS wr base mv vs ms) (hv : Own wr base 3 v (intL l)) (h1 : Own w' base 23 mv' (vs ++ [v])) (hg : wr.grownBy w' mv.ownBlock) : MvS w' base mv' (vs ++ [v]) (ms ++ [l]) := by
  have hk : ∀ {x : Value} {l : List Int}, Own wr base 3 x (intL l) → Own w' base 3 x (intL l) := fun ho => ho.kept hg (by
    cases hb : Value.ownBlock _ with
    | none => exact .inl rfl
    | some b => exact .inr (fun e => own_types ho h.top (by decide) hb e.symm))
  refine ⟨h1, by simp [h.len], fun k hk1 hk2 => ?_⟩
  by_cases hlt : k < vs.length
  · rw [List.getElem_append_left hlt, List.getElem_append_left (by rw [← h.len]; exact hlt)]
    exact hk (h.own k hlt _)
  · have e : k = vs.length := by simp at hk1; omega
    subst e
    simp [h.len]
    exact hk hv
theorem own_at {w : World} {base : Nat} {e : TypeId} {a : Option Addr} {n c : Nat} {xs : List Value} (h : Own w base e (.slice a n c) xs) {k : Nat} (hk : k < xs.length) : ∃ g, a = some ⟨g, 0, none⟩ ∧ w.cell? ⟨g, k, none⟩ = some xs[k] := by
  obtain ⟨g, cap, hv, _, _, _, _, hc⟩ := h.pos (by omega)
  injection hv with e1 _ _
  subst e1
  exact ⟨g, rfl, hc k _ (List.getElem?_eq_getElem hk)⟩
theorem phOk_bad_o {ls : List (List Int)} {os : List Int} {s : Int} {i : Nat} (h : i < os.length) (hb : okN os[i] = false) : phOk ls os s = false := by
  rw [Bool.eq_false_iff]
  intro h9
  unfold phOk at h9
  simp only [Bool.and_eq_true, List.all_eq_true] at h9
  have := h9.2.1 _ (List.getElem_mem h)
  rw [hb] at this; cases this
theorem phOk_bad_p {ls : List (List Int)} {os : List Int} {s : Int} {i k : Nat} (h : i < ls.length) (hk : k < ls[i].length) (hb : okN ls[i][k] = false) : phOk ls os s = false := by
  rw [Bool.eq_false_iff]
  intro h9
  unfold phOk at h9
  simp only [Bool.and_eq_true, List.all_eq_true] at h9
  have := h9.2.2 _ (List.getElem_mem h) _ (List.getElem_mem hk)
  rw [hb] at this; cases this
theorem phOk_bad_l {ls : List (List Int)} {os : List Int} {s : Int} {i : Nat} (h : i < ls.length) {l : List Int} (hl : ls[i] = l) : ∀ (k : Nat) (hk : k < l.length), okN l[k] = false → phOk ls os s = false := by
  subst hl
  exact fun k hk hb => phOk_bad_p h hk hb
theorem okN_no {x : Int} (h : okN x = false) : x < 0 ∨ 2147483647 ≤ x := by
  have h1 : ¬ (0 ≤ x ∧ x ≤ 2147483646) := fun h9 => by rw [okN_iff.2 h9] at h; cases h
  omega
def sumL (ls : List (List Int)) : Nat := (ls.map List.length).sum
theorem sumL_take_le (ls : List (List Int)) (i : Nat) : sumL (ls.take i) ≤ sumL ls := by
  have : sumL ls = sumL (ls.take i) + sumL (ls.drop i) := by
    unfold sumL
    rw [← List.sum_append, ← List.map_append, List.take_append_drop]
  omega
theorem sumL_get {ls : List (List Int)} {i : Nat} (h : i < ls.length) : ls[i].length ≤ sumL ls := by
  have : sumL ls = sumL (ls.take i) + sumL (ls.drop i) := by
    unfold sumL
    rw [← List.sum_append, ← List.map_append, List.take_append_drop]
  rw [List.drop_eq_getElem_cons h] at this
  unfold sumL at this ⊢
  rw [List.map_cons, List.sum_cons] at this
  omega
theorem insI_len_le (x : Int) : ∀ (r : List Int), (insI x r).length ≤ r.length + 1
  | [] => by simp [insI]
  | y :: r => by
    have := insI_len_le x r
    unfold insI
    split
    · simp
    · split
      · simp
      · rw [List.length_cons, List.length_cons]; omega
theorem foldIns_len : ∀ (m r : List Int), (m.foldl (fun r x => insI x r) r).length ≤ r.length + m.length
  | [], r => by simp
  | x :: m, r => by
    have h1 := foldIns_len m (insI x r)
    have h2 := insI_len_le x r
    rw [List.foldl_cons, List.length_cons]; omega
theorem riseOf_len_le (m : List Int) : (riseOf m).length ≤ m.length := by
  have := foldIns_len m []
  simpa [riseOf] using this
theorem movedV_flat_len : ∀ (ls : List (List Int)) (os : List Int), (movedV ls os).flatten.length ≤ sumL ls
  | l :: ls, o :: os => by
    have ih := movedV_flat_len ls os
    unfold sumL at ih ⊢
    rw [movedV, List.flatten_cons, List.length_append, List.map_cons, List.sum_cons]
    unfold shiftL
    rw [List.length_map]
    omega
  | [], _ => by simp [movedV]
  | _ :: _, [] => by simp [movedV]
theorem flat_take_le (m : List (List Int)) (i : Nat) : (m.take i).flatten.length ≤ m.flatten.length := by
  have h : m.flatten = (m.take i).flatten ++ (m.drop i).flatten := by rw [← List.flatten_append, List.take_append_drop]
  rw [h, List.length_append]
  exact Nat.le_add_right _ _
theorem movedV_take_succ {ls : List (List Int)} {os : List Int} (hl : ls.length = os.length) {i : Nat} (h : i < ls.length) : (movedV ls os).take (i + 1) = (movedV ls os).take i ++ [shiftL (os[i]'(by omega)) ls[i]] := by
  have h9 := movedV_length ls os hl
  rw [List.take_succ_eq_append_getElem (by omega), movedV_get ls os i h (by omega) (by omega)]
set_option maxRecDepth 100000 in
set_option maxHeartbeats 16000000 in
theorem rph_any (w : World) (a : Option Addr) (n c : Nat) (ls : List (List Int)) (hL : RdLL w a n ls) (a2 : Option Addr) (n2 c2 : Nat) (os : List Int) (hO : Rd w (.slice a2 n2 c2) (intL os)) (slop : Int) (hsum : sumL ls ≤ 10000000) (hln : ls.length ≤ 10000000) (hol : os.length ≤ 10000000) :
    Calls Tryd.prog 11 #[.slice a n c, .slice a2 n2 c2, .int .i64 slop] w fun e w' => e = .returned (.int .i64 (phV ls os slop : Nat)) ∧ Below w.heap.size w w' := by
  obtain rfl := hL.1
  obtain ⟨rfl, hOc⟩ := rd_il hO
  have HL := Lib.hid hL
  have HO := Lib.hid hO
  by_cases hbase : ls.length = 0 ∨ ls.length ≠ os.length ∨ slop < 0 ∨ 2147483647 < slop
  · have hno : phOk ls os slop = false := by
      rw [Bool.eq_false_iff]
      intro h9
      unfold phOk at h9
      simp only [Bool.and_eq_true, decide_eq_true_eq] at h9
      have : ls ≠ [] := h9.1.1.1.1
      have : 0 < ls.length := List.length_pos_iff.2 this
      omega
    have hv : phV ls os slop = 0 := by unfold phV; rw [if_neg (by rw [hno]; decide)]
    rw [hv]
    clear hL hO hOc hno hv
    by_cases h0 : ls.length = 0
    · have t0 : ((ls.length : Int) == 0) = true := by rw [h0]; rfl
      clear hbase h0
      go_enter Tryd.func11, Tryd.ntmps11
      go_wp2
      go_ret
      exact ⟨rfl, Below.refl _ _⟩
    · have t0 : ((ls.length : Int) == 0) = false := beq_false_of_ne (by omega)
      by_cases h1 : ls.length = os.length
      · have t1 : ((ls.length : Int) != (os.length : Int)) = false := by rw [h1]; simp
        by_cases h2 : slop < 0
        · have t2 : decide (slop < 0) = true := decide_eq_true h2
          clear hbase h0 h1
          go_enter Tryd.func11, Tryd.ntmps11
          go_wp2
          go_ret
          exact ⟨rfl, Below.refl _ _⟩
        · have t2 : decide (slop < 0) = false := decide_eq_false h2
          have t3 : decide (2147483647 < slop) = true := decide_eq_true (by omega)
          clear hbase h0 h1
          go_enter Tryd.func11, Tryd.ntmps11
          go_wp2
          go_ret
          exact ⟨rfl, Below.refl _ _⟩
      · have t1 : ((ls.length : Int) != (os.length : Int)) = true := by simp; omega
        clear hbase h0 h1
        go_enter Tryd.func11, Tryd.ntmps11
        go_wp2
        go_ret
        exact ⟨rfl, Below.refl _ _⟩
  · have hlo : os.length = ls.length := by omega
    have t0 : ((ls.length : Int) == 0) = false := beq_false_of_ne (by omega)
    have t1 : ((ls.length : Int) != (os.length : Int)) = false := by rw [hlo]; simp
    have t2 : decide (slop < 0) = false := decide_eq_false (by omega)
    have t3 : decide (2147483647 < slop) = false := decide_eq_false (by omega)
    have hs0 : 0 ≤ slop := by omega
    have hs1 : slop ≤ 2147483647 := by omega
    have hl0 : 0 < ls.length := by omega
    have HLO := Lib.hid hlo
    have HOC := Lib.hid hOc
    clear hL hO hOc hbase hlo
    go_enter Tryd.func11, Tryd.ntmps11
    go_wp2
    go_loopw [7, 8] (fun s7 s8 wr => ∃ (i : Nat) (t8 : Value), s7 = .int .i64 i ∧ s8 = t8 ∧ i ≤ ls.length ∧ RowKit.Hid (∀ (j : Nat) (h : j < ls.length) (h2 : j < os.length), j < i → okN os[j] = true ∧ ls[j].all okN = true) ∧ wr = w) (fun s7 _ _ => ls.length - (intOf s7).toNat)
    case atStart => exact ⟨0, _, rfl, rfl, Nat.zero_le _, Lib.hid (fun j h h2 h9 => by omega), rfl⟩
    case round =>
      obtain ⟨i, t8, rfl, rfl, hi, HK, rfl⟩ := hrel
      by_cases hlt : i < ls.length
      · have hlt2 : i < os.length := by have := HLO.out; omega
        obtain ⟨bo, oo, rfl, hco⟩ := HOC.out (by omega)
        have co := hco i hlt2
        obtain ⟨bl, ol, rfl, hcl⟩ := HL.out.2 hl0
        obtain ⟨A, C, cl, hrl⟩ := hcl i hlt
        have hli := sumL_get hlt
        have hbo := phOk_bad_o (ls := ls) (s := slop) hlt2
        have i1 : (i : Int) < (ls.length : Int) := by omega
        have i2 : (i : Int) < (os.length : Int) := by omega
        obtain ⟨x, hx⟩ : ∃ x, os[i] = x := ⟨_, rfl⟩
        rw [hx] at co hbo
        cases hxo : okN x with
        | false =>
          have hno := hbo hxo
          have hv : phV ls os slop = 0 := by unfold phV; rw [if_neg (by rw [hno]; decide)]
          have HV := Lib.hid hv
          rcases okN_no hxo with h9 | h9
          · have u1 : decide (x < 0) = true := decide_eq_true h9
            clear hco hcl hrl hx hbo hxo hno hv HK h9
            go_wp2
            go_ret
            exact ⟨by rw [HV.out]; rfl, Below.refl _ _⟩
          · have u1 : decide (x < 0) = false := decide_eq_false (by omega)
            have u2 : decide (2147483647 ≤ x) = true := decide_eq_true h9
            clear hco hcl hrl hx hbo hxo hno hv HK h9
            go_wp2
            go_ret
            exact ⟨by rw [HV.out]; rfl, Below.refl _ _⟩
        | true =>
          have hx2 := okN_iff.1 hxo
          have u1 : decide (x < 0) = false := decide_eq_false (by omega)
          have u2 : decide (2147483647 ≤ x) = false := decide_eq_false (by omega)
          obtain ⟨l, hle⟩ : ∃ l, ls[i] = l := ⟨_, rfl⟩
          have hbp := phOk_bad_l (os := os) (s := slop) hlt hle
          simp only [hle] at cl hrl hli
          obtain ⟨-, hcx⟩ := rd_il hrl
          have HX := Lib.hid (show okN os[i] = true by rw [hx]; exact hxo)
          have HLE := Lib.hid hle
          have HBP := Lib.hid hbp
          have HCX := Lib.hid hcx
          clear hco hcl hrl hx hbo hxo hle hbp hcx hx2
          go_wp2
          go_loopw [8] (fun s8 wr' => ∃ k : Nat, s8 = .int .i64 k ∧ k ≤ l.length ∧ RowKit.Hid (∀ (j : Nat) (h : j < l.length), j < k → okN l[j] = true) ∧ wr' = wr) (fun s8 _ => l.length - (intOf s8).toNat)
          case atStart => exact ⟨0, rfl, Nat.zero_le _, Lib.hid (fun j h h9 => by omega), rfl⟩
          case round =>
            obtain ⟨k, rfl, hk, HJ, rfl⟩ := hrel
            by_cases hkl : k < l.length
            · obtain ⟨bx, ox, rfl, hcx⟩ := HCX.out (by omega)
              have cx := hcx k hkl
              have hbp := HBP.out k hkl
              have k1 : (k : Int) < (l.length : Int) := by omega
              obtain ⟨y, hy⟩ : ∃ y, l[k] = y := ⟨_, rfl⟩
              rw [hy] at cx hbp
              cases hyo : okN y with
              | false =>
                have hno := hbp hyo
                have hv : phV ls os slop = 0 := by unfold phV; rw [if_neg (by rw [hno]; decide)]
                have HV := Lib.hid hv
                rcases okN_no hyo with h9 | h9
                · have v1 : decide (y < 0) = true := decide_eq_true h9
                  clear hcx hy hbp hyo hno hv HJ HK h9
                  go_wp2
                  go_ret
                  exact ⟨by rw [HV.out]; rfl, Below.refl _ _⟩
                · have v1 : decide (y < 0) = false := decide_eq_false (by omega)
                  have v2 : decide (2147483647 ≤ y) = true := decide_eq_true h9
                  clear hcx hy hbp hyo hno hv HJ HK h9
                  go_wp2
                  go_ret
                  exact ⟨by rw [HV.out]; rfl, Below.refl _ _⟩
              | true =>
                have hy2 := okN_iff.1 hyo
                have v1 : decide (y < 0) = false := decide_eq_false (by omega)
                have v2 : decide (2147483647 ≤ y) = false := decide_eq_false (by omega)
                have hj2 : ∀ (j : Nat) (h : j < l.length), j < k + 1 → okN l[j] = true := fun j h h9 => by
                  rcases Nat.lt_or_eq_of_le (show j ≤ k by omega) with h10 | h10
                  · exact HJ.out j h h10
                  · subst h10; rw [hy]; exact hyo
                have HJ2 := Lib.hid hj2
                clear hcx hy hbp hyo hy2 hj2 HJ
                go_wp2
                go_roundw
                case rel => exact ⟨k + 1, by go_num, by omega, HJ2, by first | rfl | trivial⟩
                case measure => simp [intOf]; omega
            · obtain rfl : k = l.length := by omega
              have k1 : ¬ ((l.length : Int) < (l.length : Int)) := by omega
              have hk2 : ∀ (j : Nat) (h : j < ls.length) (h2 : j < os.length), j < i + 1 → okN os[j] = true ∧ ls[j].all okN = true := fun j h h2 h9 => by
                rcases Nat.lt_or_eq_of_le (show j ≤ i by omega) with h10 | h10
                · exact HK.out j h h2 h10
                · subst h10
                  refine ⟨HX.out, ?_⟩
                  rw [HLE.out, List.all_eq_true]
                  intro z hz
                  obtain ⟨m, hm, rfl⟩ := List.mem_iff_getElem.1 hz
                  exact HJ.out m hm hm
              have HK2 := Lib.hid hk2
              clear hk2 HJ HK
              go_wp2
              go_roundw
              case rel => exact ⟨i + 1, _, by go_num, rfl, by omega, HK2, by first | rfl | trivial⟩
              case measure => simp [intOf]; omega
      · obtain rfl : i = ls.length := by omega
        have i1 : ¬ ((ls.length : Int) < (ls.length : Int)) := by omega
        have hok : phOk ls os slop = true := by
          have hlo := HLO.out
          unfold phOk
          simp only [Bool.and_eq_true, decide_eq_true_eq, List.all_eq_true]
          refine ⟨⟨⟨⟨List.length_pos_iff.1 hl0, by omega⟩, hs0⟩, hs1⟩, fun o ho => ?_, fun l hl x hx => ?_⟩
          · obtain ⟨m, hm, rfl⟩ := List.mem_iff_getElem.1 ho
            exact (HK.out m (by omega) hm (by omega)).1
          · obtain ⟨m, hm, rfl⟩ := List.mem_iff_getElem.1 hl
            exact List.all_eq_true.1 (HK.out m hm (by omega) hm).2 x hx
        have HOK := Lib.hid hok
        clear hok HK
        have hst0 : MvS wr wr.heap.size (.slice none 0 0) [] (((movedV ls os).take 0).map riseOf) := ⟨own_nil _ _ _, by simp, fun k h => by simp at h⟩
        have ha0 : Own wr wr.heap.size 3 (.slice none 0 0) (intL (riseOf ((movedV ls os).take 0).flatten)) := by rw [List.take_zero]; exact own_nil _ _ _
        have HST0 := Lib.hid hst0
        have HA0 := Lib.hid ha0
        clear hst0 ha0
        go_wp2
        obtain ⟨wo, rfl⟩ : ∃ wo : World, wo = wr := ⟨_, rfl⟩
        go_loopw [9, 10, 11, 12] (fun s9 s10 s11 s12 wr => ∃ (i : Nat) (M A : Option Addr) (N9 C9 N10 C10 : Nat) (vs : List Value) (t12 : Value), s9 = .slice M N9 C9 ∧ s10 = .slice A N10 C10 ∧ s11 = .int .i64 i ∧ s12 = t12 ∧ i ≤ ls.length ∧ RowKit.Hid (MvS wr wo.heap.size (.slice M N9 C9) vs (((movedV ls os).take i).map riseOf)) ∧ RowKit.Hid (Own wr wo.heap.size 3 (.slice A N10 C10) (intL (riseOf ((movedV ls os).take i).flatten))) ∧ RowKit.Hid (Below wo.heap.size wo wr)) (fun _ _ s11 _ _ => ls.length - (intOf s11).toNat)
        case atStart => exact ⟨0, none, none, 0, 0, 0, 0, [], _, rfl, rfl, rfl, rfl, Nat.zero_le _, HST0, HA0, Lib.hid (Below.refl _ _)⟩
        case round =>
          clear HST0 HA0
          obtain ⟨i, M, A, N9, C9, N10, C10, vs, t12, rfl, rfl, rfl, rfl, hi, HST, HA, HB⟩ := hrel
          by_cases hlt : i < ls.length
          · have hlt2 : i < os.length := by have := HLO.out; omega
            obtain ⟨bo, oo, rfl, hco⟩ := (rd_il (HO.out.below HB.out (Nat.le_refl _))).2 (by omega)
            have co := hco i hlt2
            obtain ⟨bl, ol, rfl, hcl⟩ := (HL.out.below HB.out (Nat.le_refl _)).2 hl0
            obtain ⟨A2, C2, cl, hrl⟩ := hcl i hlt
            have hli := sumL_get hlt
            have hmt := movedV_take_succ (HLO.out.symm) hlt
            have hok := HOK.out
            unfold phOk at hok
            simp only [Bool.and_eq_true, decide_eq_true_eq, List.all_eq_true] at hok
            have hin : InR ls[i] := fun x hx => okN_iff.1 (hok.2.2 _ (List.getElem_mem hlt) x hx)
            have hoi := okN_iff.1 (hok.2.1 _ (List.getElem_mem hlt2))
            obtain ⟨l, hle⟩ : ∃ l, ls[i] = l := ⟨_, rfl⟩
            obtain ⟨x, hx⟩ : ∃ x, os[i] = x := ⟨_, rfl⟩
            rw [hle] at cl hrl hli hmt hin
            rw [hx] at co hmt hoi
            have C1 := rsrt_any _ wr.drew A2 l.length C2 l x (Nat.le_refl _) hrl hin hoi.1 hoi.2 (by omega)
            have i1 : (i : Int) < (ls.length : Int) := by omega
            have i2 : (i : Int) < (os.length : Int) := by omega
            have hTL : ((movedV ls os).take (i + 1)).flatten.length ≤ sumL ls := Nat.le_trans (flat_take_le _ _) (movedV_flat_len ls os)
            obtain ⟨PV, hPV⟩ : ∃ PV, (movedV ls os).take i = PV := ⟨_, rfl⟩
            rw [hPV] at HST HA hmt
            rw [hmt] at hTL
            have hPVl : PV.length = i := by rw [← hPV, List.length_take, movedV_length ls os HLO.out.symm]; omega
            have HMT := Lib.hid hmt
            have HTL := Lib.hid hTL
            have HPL := Lib.hid hPVl
            clear hco hcl hrl hle hx hok hin hoi hmt hTL hPV hPVl
            go_wp2
            go_still_tail 8, (by kernel_rfl)
            change wpList _ _ _ _ _ (World.drew _)
            go_wp2_with fail
            with_reducible refine C1.mono ?_
            rintro e w5 ⟨v5, rfl, ho5, hb5⟩
            clear C1 co cl
            obtain ⟨A5, N5, C5, rfl⟩ := own_sl ho5
            have hz0 := HB.out.size
            have ho5' := own_base ho5 (base' := wo.heap.size) hz0
            have hb5' := (HB.out.drew).trans (hb5.mono hz0)
            have hst5 := (HST.out.drewN 1).below hb5 (Nat.le_refl _)
            have ha5 := (HA.out.drewN 1).below hb5 (Nat.le_refl _)
            have hvl : vs.length = i := by rw [hst5.len, List.length_map]; exact HPL.out
            have hvl2 : vs.length < 1000000000000 := by omega
            have hz5 := hb5'.size
            have HO5 := Lib.hid ho5'
            have HB5 := Lib.hid hb5'
            have HST5 := Lib.hid hst5
            have HTOP5 := Lib.hid hst5.top
            have HA5 := Lib.hid ha5
            have HVL := Lib.hid hvl2
            clear ho5 hb5 ho5' hb5' hst5 ha5 hvl hvl2 HST HA HB hz0
            go_upto_region 19 with fail
            go_wp2_with (at_builtin; with_reducible refine ap1' elLL rfl HTOP5.out HVL.out hz5 rfl _ _ rfl rfl rfl ?_)
            intro v6 w6 k1 k2 k3 k4
            have hb6 := HB5.out.grown k4 hz5 (fun k hk => (HTOP5.out.lt k hk).1)
            have hst6 := HST5.out.snoc HO5.out k1 k4
            have hkeep : ∀ {x : Value} {m : List Int}, Own w5 wo.heap.size 3 x (intL m) → Own w6 wo.heap.size 3 x (intL m) := fun ho => ho.kept k4 (by
              cases hb : Value.ownBlock _ with
              | none => exact .inl rfl
              | some b => exact .inr (fun e => own_types ho HTOP5.out (by decide) hb e.symm))
            have ho6 := hkeep HO5.out
            have ha6 := hkeep HA5.out
            obtain ⟨M6, N6, C6, rfl⟩ := own_sl k1
            have hlen1 : (riseOf PV.flatten).length ≤ 10000000 := by
              have h1 := riseOf_len_le PV.flatten
              have h2 := HTL.out
              rw [List.flatten_append, List.length_append] at h2
              omega
            have hlen2 : (riseOf (shiftL x l)).length ≤ 10000000 := by
              have h1 := riseOf_len_le (shiftL x l)
              unfold shiftL at h1 ⊢
              rw [List.length_map] at h1
              omega
            have C2 := uni_any w6 A A5 N10 N5 C10 C5 _ _ ha6.rd ho6.rd (riseOf_rise _) (riseOf_rise _) (Nat.le_trans hlen1 (by decide)) (Nat.le_trans hlen2 (by decide))
            have heq : riseOf (riseOf PV.flatten ++ riseOf (shiftL x l)) = riseOf (PV ++ [shiftL x l]).flatten := riseOf_ext fun z => by
              rw [List.mem_append, riseOf_mem, riseOf_mem]
              simp
            rw [heq] at C2
            have hst6' : MvS w6 wo.heap.size (.slice M6 N6 C6) (vs ++ [.slice A5 N5 C5]) ((PV ++ [shiftL x l]).map riseOf) := by
              rw [List.map_append]; exact hst6
            have HST6 := Lib.hid hst6'
            have HB6 := Lib.hid hb6
            clear k1 k2 k3 k4 hb6 hst6 hst6' hkeep ho6 ha6 hlen1 hlen2 heq HO5 HB5 HST5 HTOP5 HA5 HVL hz5
            go_wp2_with fail
            with_reducible refine C2.mono ?_
            rintro e w7 ⟨v7, rfl, ho7, hb7⟩
            clear C2
            obtain ⟨A7, N7, C7, rfl⟩ := own_sl ho7
            have hz6 := HB6.out.size
            have hb17 := HB6.out.trans (hb7.mono hz6)
            have hst7 := HST6.out.below hb7 (Nat.le_refl _)
            have ho7' := own_base ho7 (base' := wo.heap.size) hz6
            rw [← HMT.out] at hst7 ho7'
            have HST7 := Lib.hid hst7
            have HO7 := Lib.hid ho7'
            have HB7 := Lib.hid hb17
            clear ho7 hb7 hz6 hb17 hst7 ho7' HST6 HB6
            go_wp2
            go_roundw
            case rel => exact ⟨i + 1, M6, A7, N6, C6, N7, C7, _, _, rfl, rfl, by go_num, rfl, by omega, HST7, HO7, HB7⟩
            case measure => simp [intOf]; omega
          · obtain rfl : i = ls.length := by omega
            have i1 : ¬ ((ls.length : Int) < (ls.length : Int)) := by omega
            have hml := movedV_length ls os HLO.out.symm
            rw [List.take_of_length_le (by omega)] at HST HA
            obtain ⟨AL, hAL⟩ : ∃ AL, riseOf (movedV ls os).flatten = AL := ⟨_, rfl⟩
            obtain ⟨MS, hMS⟩ : ∃ MS, (movedV ls os).map riseOf = MS := ⟨_, rfl⟩
            have hphv : phV ls os slop = cntV AL MS slop := by
              unfold phV
              rw [if_pos HOK.out, hAL]
              refine cntV_ext rfl (by rw [← hMS, List.length_map]) fun i h1 h2 z => ?_
              subst hMS
              rw [List.getElem_map, riseOf_mem]
            have hALl : AL.length ≤ 10000000 := by
              have h1 := riseOf_len_le (movedV ls os).flatten
              have h2 := movedV_flat_len ls os
              rw [hAL] at h1
              omega
            have hMSr : ∀ (k : Nat) (h : k < MS.length), Rise MS[k] ∧ MS[k].length ≤ 10000000 := by
              subst hMS
              intro k h
              rw [List.getElem_map]
              refine ⟨riseOf_rise _, ?_⟩
              rw [List.length_map] at h
              have h1 := riseOf_len_le (movedV ls os)[k]
              have h3 := movedV_get ls os k (by omega) (by have := HLO.out; omega) h
              have h4 := sumL_get (ls := ls) (i := k) (by omega)
              rw [h3] at h1 ⊢
              unfold shiftL at h1 ⊢
              rw [List.length_map] at h1
              omega
            have hALb : ∀ z ∈ AL, -4294967296 ≤ z ∧ z ≤ 4294967296 := by
              intro z hz
              rw [← hAL, riseOf_mem] at hz
              obtain ⟨m, hm, hz⟩ := List.mem_flatten.1 hz
              obtain ⟨k, hk, rfl⟩ := List.mem_iff_getElem.1 hm
              rw [movedV_get ls os k (by omega) (by have := HLO.out; omega) hk] at hz
              obtain ⟨y, hy, rfl⟩ := List.mem_map.1 hz
              have hok := HOK.out
              unfold phOk at hok
              simp only [Bool.and_eq_true, decide_eq_true_eq, List.all_eq_true] at hok
              have h1 := okN_iff.1 (hok.2.2 _ (List.getElem_mem (show k < ls.length by omega)) y hy)
              have h2 := okN_iff.1 (hok.2.1 _ (List.getElem_mem (show k < os.length by have := HLO.out; omega)))
              omega
            have hMSl : MS.length = ls.length := by rw [← hMS, List.length_map, hml]
            rw [hAL] at HA
            rw [hMS] at HST
            have HPV := Lib.hid hphv
            have HMR := Lib.hid hMSr
            have HAB := Lib.hid hALb
            have HML := Lib.hid hMSl
            have hvl := HST.out.len
            have hN9 := HST.out.top.len
            have hN10 := HA.out.len
            rw [intL_length] at hN10
            rw [hvl] at hN9
            subst hN9 hN10
            have hMb : MS.length ≤ 10000000 := by omega
            clear hAL hMS hphv hMSr hALb hMSl hvl hml
            go_wp2
            obtain ⟨wq, rfl⟩ : ∃ wq : World, wq = wr := ⟨_, rfl⟩
            go_loopw [13, 14, 15, 16] (fun s13 s14 s15 s16 wr => ∃ (k d cn : Nat) (t15 t16 : Value), s13 = .int .i64 (cn : Nat) ∧ s14 = .int .i64 (k : Nat) ∧ s15 = t15 ∧ s16 = t16 ∧ k ≤ AL.length ∧ RowKit.Hid (cn = cntV (AL.take k) MS slop) ∧ cn ≤ k ∧ wr = wq.drewN d) (fun _ s14 _ _ _ => AL.length - (intOf s14).toNat)
            case atStart => exact ⟨0, 0, 0, _, _, rfl, rfl, rfl, rfl, Nat.zero_le _, Lib.hid (by rw [List.take_zero]; rfl), Nat.le_refl _, rfl⟩
            case round =>
              obtain ⟨k, d, cn, t15, t16, rfl, rfl, rfl, rfl, hk, HC, hcn, rfl⟩ := hrel
              by_cases hkl : k < AL.length
              · have k1 : (k : Int) < (AL.length : Int) := by omega
                have hca := own_at HA.out (k := k) (by rw [intL_length]; exact hkl)
                obtain ⟨ga, rfl, ca⟩ := hca
                have hbk := HAB.out AL[k] (List.getElem_mem hkl)
                have hcs := cntV_snoc (AL.take k) AL[k] MS slop
                rw [← List.take_succ_eq_append_getElem hkl] at hcs
                have eg : (intL AL)[k]'(by rw [intL_length]; exact hkl) = .int .i64 AL[k] := by simp [intL]
                rw [eg] at ca
                obtain ⟨b, hb⟩ : ∃ b, AL[k] = b := ⟨_, rfl⟩
                rw [hb] at ca hbk hcs
                have s1 : IntKind.i64.wrap (b + slop) = b + slop := by rw [IntKind.wrap_i64]; omega
                have hcle := HC.out
                have HCS := Lib.hid hcs
                clear eg hb hcs hcle
                go_wp2
                go_loopw [15, 16] (fun s15 s16 wr => ∃ (i d : Nat), s15 = .bool ((MS.take i).all fun l => hasIn l b (b + slop)) ∧ s16 = .int .i64 (i : Nat) ∧ i ≤ MS.length ∧ wr = wq.drewN d) (fun _ s16 _ => MS.length - (intOf s16).toNat)
                case atStart => exact ⟨0, d, by rw [List.take_zero]; rfl, rfl, Nat.zero_le _, rfl⟩
                case round =>
                  obtain ⟨i, d, rfl, rfl, hi, rfl⟩ := hrel
                  by_cases hil : i < MS.length
                  · have i2 : (i : Int) < (MS.length : Int) := by omega
                    have hvl := HST.out.len
                    obtain ⟨gm, rfl, cm⟩ := own_at HST.out.top (k := i) (by omega)
                    have hov := HST.out.own i (by omega) hil
                    obtain ⟨hri, hli⟩ := HMR.out i hil
                    have hat := all_take MS (fun l => hasIn l b (b + slop)) i hil
                    obtain ⟨m, hm⟩ : ∃ m, MS[i] = m := ⟨_, rfl⟩
                    rw [hm] at hov hri hli hat
                    obtain ⟨A8, C8, hv8⟩ := own_slice hov
                    rw [intL_length] at hv8
                    rw [hv8] at cm hov
                    have D1 : ∀ q : Nat, Calls Tryd.prog 41 #[.slice A8 m.length C8, .int .i64 b, .int .i64 (b + slop)] (wq.drewN q) fun e w' => e = .returned (.bool (hasIn m b (b + slop))) ∧ wq.drewN q = w' := fun q => bet_any _ A8 m.length C8 m b (b + slop) (hov.drewN q).rd hri (by omega)
                    have HAT := Lib.hid hat
                    cases hok : ((MS.take i).all fun l => hasIn l b (b + slop)) with
                    | true =>
                      rw [hok, Bool.true_and] at hat
                      have HAT2 := Lib.hid hat
                      clear hov hri hli hat hm hv8 hvl hok HAT
                      go_wp2
                      go_quiet ((go_at_call 41; first | with_reducible exact quiet_leftN (D1 _) | with_reducible exact quiet_leftNN (D1 _) | with_reducible exact quiet_left (D1 _)))
                      go_wp2
                      go_roundw
                      case rel => exact ⟨i + 1, _, by rw [HAT2.out], by go_num, by omega, by first | rfl | trivial | rw [World.drewN_drewN]⟩
                      case measure => simp [intOf]; omega
                    | false =>
                      rw [hok, Bool.false_and] at hat
                      have HAT2 := Lib.hid hat
                      clear hov hri hli hat hm hv8 hvl hok HAT D1
                      go_wp2
                      go_quiet (fail)
                      go_wp2
                      go_roundw
                      case rel => exact ⟨i + 1, _, by rw [HAT2.out], by go_num, by omega, by first | rfl | trivial | rw [World.drewN_drewN]⟩
                      case measure => simp [intOf]; omega
                  · obtain rfl : i = MS.length := by omega
                    have i2 : ¬ ((MS.length : Int) < (MS.length : Int)) := by omega
                    rw [List.take_length]
                    cases hok : (MS.all fun l => hasIn l b (b + slop)) with
                    | true =>
                      have HC2 := Lib.hid (show cn + 1 = cntV (AL.take (k + 1)) MS slop by rw [HCS.out, if_pos hok, ← HC.out])
                      clear hok
                      go_wp2
                      go_roundw
                      case rel => exact ⟨k + 1, d, cn + 1, _, _, by go_num, by go_num, rfl, rfl, by omega, HC2, by omega, rfl⟩
                      case measure => simp [intOf]; omega
                    | false =>
                      have HC2 := Lib.hid (show cn = cntV (AL.take (k + 1)) MS slop by rw [HCS.out, if_neg (by rw [hok]; decide), ← HC.out]; rfl)
                      clear hok
                      go_wp2
                      go_roundw
                      case rel => exact ⟨k + 1, d, cn, _, _, rfl, by go_num, rfl, rfl, by omega, HC2, by omega, rfl⟩
                      case measure => simp [intOf]; omega
              · obtain rfl : k = AL.length := by omega
                have k1 : ¬ ((AL.length : Int) < (AL.length : Int)) := by omega
                rw [List.take_length] at HC
                have HB9 := Lib.hid (below_drewN HB.out d)
                clear HST HA HB
                go_wp2
                go_ret
                exact ⟨by rw [HPV.out, HC.out]; rfl, HB9.out⟩
end Go.Proofs.YtaijepjhmjjecaaDoor
