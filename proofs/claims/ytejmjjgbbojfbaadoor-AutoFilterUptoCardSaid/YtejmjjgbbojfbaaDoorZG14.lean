/- Merged: Wild3, WildA. -/
import Derived.Test.YtejmjjgbbojfbaaDoorZG13
/- The walk of a pattern's step (printed by wip/gen_wild3.py). -/
namespace Go.Proofs.YtejmjjgbbojfbaaDoor
set_option linter.unusedVariables false
open Go.ChangeShapes Go.WideShapes Go.ChangeAt Go.RowKit

theorem strB_ix {d : ByteArray} {D : List Bool} (hd : d = strB D) (i : Nat) (h : i < d.size) : ((d[i]'h).toNat : Int) = if D.getD i false then 1 else 0 := by
  have e : d.data.toList = bitsB D := by rw [hd]; unfold strB strOf; rw [List.toList_toArray]
  have hs : d.size = D.length := by rw [hd, strB, strOf_size, bitsB_length]
  have e2 : d[i]'h = d.data.toList[i]'(by rw [e, bitsB_length]; omega) := rfl
  have e3 : (d.data.toList)[i]? = some (bitB (D.getD i false)) := by
    rw [e]; unfold bitsB; rw [List.getElem?_map, List.getElem?_eq_getElem (by omega), List.getD_eq_getElem?_getD, List.getElem?_eq_getElem (by omega)]; rfl
  obtain ⟨_, e6⟩ := List.getElem?_eq_some_iff.1 e3
  rw [e2, e6]
  cases D.getD i false <;> rfl
def stepS (es : List PEl) (D : List Bool) (b : UInt8) : ByteArray := if (stepL es D b).any id then strB (stepL es D b) else ⟨#[]⟩
theorem any_take {r : List Bool} {j : Nat} (h : (r.take j).any id = false) (hj : j < r.length) (h2 : r.getD j false = false) : (r.take (j + 1)).any id = false := by
  rw [List.take_add_one, List.getElem?_eq_getElem hj, List.any_append, h]
  rw [List.getD_eq_getElem?_getD, List.getElem?_eq_getElem hj] at h2
  simpa using h2
theorem any_hit {r : List Bool} {j : Nat} (hj : j < r.length) (h2 : r.getD j false = true) : r.any id = true := by
  rw [List.getD_eq_getElem?_getD, List.getElem?_eq_getElem hj] at h2
  exact List.any_eq_true.2 ⟨r[j], List.getElem_mem hj, h2⟩

set_option maxRecDepth 100000 in
set_option maxHeartbeats 2000000 in
theorem wstep_any (w : World) (a : Option Addr) (n ca : Nat) (es : List PEl) (hr : RdE w (.slice a n ca) es) (hes : es.length ≤ 1000000000) (d : ByteArray) (D : List Bool) (hd : d = strB D) (hD : D.length = es.length + 1) (b : UInt8) :
    Calls Tryd.prog 116 #[.agg #[.slice a n ca], .string d, .int .u8 (b.toNat : Nat)] w fun e w' => e = .returned (.string (stepS es D b)) ∧ Below w.heap.size w w' := by
  obtain rfl := hr.k.1
  obtain ⟨N, hN⟩ : ∃ N, d.size = N := ⟨_, rfl⟩
  have hDN : D.length = N := by rw [← hN, hd, strB, strOf_size, bitsB_length]
  have q1 : N ≤ es.length + 1 := by omega
  have q1b : es.length + 1 ≤ N := by omega
  have q2 : (N : Int) ≤ 1000000001 := by omega
  have q3 : N ≤ 1000000000000 := by omega
  obtain ⟨ob, hob⟩ : ∃ ob, ob = Obj.cells #[.slice a es.length ca] 93 := ⟨_, rfl⟩
  obtain ⟨om, hom⟩ : ∃ om, om = Obj.cells (madeCells #[.int .u8 0] N) 5 := ⟨_, rfl⟩
  have hb1 : Below w.heap.size w ((w.alloc ob).alloc om) := ((Below.refl _ _).alloc (Nat.le_refl _) _).alloc (by simp) _
  have hs1 : (w.alloc ob).heap.size = w.heap.size + 1 := by simp
  have hs2 : ((w.alloc ob).alloc om).heap.size = w.heap.size + 2 := by simp
  have ho : Own ((w.alloc ob).alloc om) (w.heap.size + 1) 5 (.slice (some ⟨w.heap.size + 1, 0, none⟩) N N) (setV (stepI es D b 0)) := by
    have h := own_lit (w.alloc ob) (w.heap.size + 1) 5 (setV (List.replicate N false)) (by rw [hs1]; exact Nat.le_refl _) (by rw [setV_length]; simp [maxLen]; omega)
    rw [← madeB, ← hom, hs1, setV_length, List.length_replicate] at h
    rw [stepI, hDN]; exact h
  have hbx : ((w.alloc ob).alloc om).cell? ⟨w.heap.size, 0, none⟩ = some (.slice a es.length ca) := by
    have h : ((w.alloc ob).alloc om).heap[w.heap.size]? = some ob := (Below.heap_alloc (w.alloc ob) om w.heap.size (by rw [hs1]; omega)).trans (heap_alloc_new w ob)
    exact blk_cell (h.trans (congrArg some hob)) 0
  obtain ⟨w1, hw1⟩ : ∃ w1, w1 = (w.alloc ob).alloc om := ⟨_, rfl⟩
  rw [← hw1] at hb1 hs2 ho hbx
  have hrl : RdL (w.heap.size + 1) w1 (.slice a es.length ca) es := hr.rl hb1 (by omega)
  have hdl : ∀ i, i < N → ∀ h : i < d.size, ((d[i]'h).toNat : Int) = if D.getD i false then 1 else 0 := fun i _ h => strB_ix hd i h
  have HDL := Lib.hid hdl
  have HRL := Lib.hid hrl
  have HOB := Lib.hid hob
  have HOM := Lib.hid hom
  have HB1 := Lib.hid hb1
  have HO := Lib.hid ho
  have HBX := Lib.hid hbx
  have HDN := Lib.hid hDN
  have HW1 := Lib.hid hw1
  have HNN := Lib.hid hN
  have q5 : (d.size : Int) = (N : Int) := by omega
  have hmk := fun (w : World) => make_row elBytes rfl N q3 (N : Int) rfl w
  have HS2 := Lib.hid hs2
  clear hdl hrl hb1 ho hbx hDN hr hd hD hN hs1
  go_enter Tryd.func116, Tryd.ntmps116
  go_wp2
  rw [← HOB.out, ← HOM.out, ← HW1.out]
  go_loopw [18] (fun s18 wr => ∃ i : Nat, s18 = .int .i64 i ∧ i ≤ es.length ∧ Own wr (w.heap.size + 1) 5 (.slice (some ⟨w.heap.size + 1, 0, none⟩) N N) (setV (stepI es D b i)) ∧ Eff (· = w.heap.size + 1) w1 wr) (fun s18 _ => es.length - (intOf s18).toNat)
  case atStart => exact ⟨0, rfl, Nat.zero_le _, HO.out, Eff.refl _ _⟩
  case round =>
    clear HO
    obtain ⟨i, rfl, hi, hown, heff⟩ := hrel
    have hbl : Below (w.heap.size + 1) w1 wr := heff.below (fun k hk => by subst hk; exact Nat.le_refl _) (by rw [HS2.out]; omega)
    by_cases hlt : i < es.length
    · obtain ⟨gl, rfl, k0, k1⟩ := (HRL.out wr hbl).k.2 i hlt
      have hi0 : i < d.size := by rw [HNN.out]; omega
      have hi1 : i + 1 < d.size := by rw [HNN.out]; omega
      have hx0 := HDL.out i (by omega) hi0
      have hx1 := HDL.out (i + 1) (by omega) hi1
      obtain ⟨t, ht⟩ : ∃ t, stepI es D b i = t := ⟨_, rfl⟩
      have htl : t.length = N := by rw [← ht, stepI_length]; exact HDN.out
      have hc1 : stepI es D b (i + 1) = if takes es D b i then t.set (i + 1) true else t := by rw [stepI, ht]
      rw [ht] at hown
      obtain ⟨o1, ho1⟩ : ∃ o1, o1 = Obj.cells #[.int .i64 (PEl.k es i : Nat), .int .u8 ((PEl.b es i).toNat : Nat)] 131 := ⟨_, rfl⟩
      have hown1 := hown.alloc o1
      have hget1 := hown1.get (setV_get (s := t) (i := i + 1) (by omega))
      have hfz := hown1.frozen (i + 1)
      have hset := hown1.set (i + 1) (.int .u8 1)
      rw [setV_set] at hset
      have heff1 := heff.alloc o1
      have heff2 := heff1.setCell (p := ⟨w.heap.size + 1, i + 1, none⟩) (fun _ => rfl) (.int .u8 1)
      obtain ⟨kk, hkk⟩ : ∃ kk : Int, ((PEl.k es i : Nat) : Int) = kk := ⟨_, rfl⟩
      obtain ⟨bi, hbi⟩ : ∃ bi : Int, ((PEl.b es i).toNat : Int) = bi := ⟨_, rfl⟩
      obtain ⟨bb, hbb⟩ : ∃ bb : Int, (b.toNat : Int) = bb := ⟨_, rfl⟩
      rw [hkk] at k0 ho1
      rw [hbi] at k1 ho1
      rw [hbb]
      have HKK := Lib.hid hkk
      have HBI := Lib.hid hbi
      have HBB := Lib.hid hbb
      rw [ho1] at hget1 hfz hset heff1 heff2 hown1
      have HC := Lib.hid hc1
      have HS := Lib.hid hset
      have HE1 := Lib.hid heff1
      have HE2 := Lib.hid heff2
      have HW2 := Lib.hid hown1
      obtain ⟨v0, hv0⟩ : ∃ v0, D.getD i false = v0 := ⟨_, rfl⟩
      obtain ⟨v1, hv1⟩ : ∃ v1, D.getD (i + 1) false = v1 := ⟨_, rfl⟩
      rw [hv0] at hx0
      rw [hv1] at hx1
      have HV0 := Lib.hid hv0
      have HV1 := Lib.hid hv1
      clear ht ho1 hc1 hset heff1 heff2 hown1 hown heff hbl htl hkk hbi hbb hv0 hv1
      by_cases hk2 : kk = 2
      · subst hk2
        cases v1 with
        | true =>
          simp only [if_true] at hx1
          go_wp2
          go_roundw
          case rel => exact ⟨i + 1, by go_num, by omega, by rw [HC.out, if_pos (.inl ⟨by have := HKK.out; omega, HV1.out⟩)]; exact HS.out, HE2.out⟩
          case measure => simp [intOf]; omega
        | false =>
          simp only [Bool.false_eq_true, if_false] at hx1
          go_wp2
          go_roundw
          case rel => exact ⟨i + 1, by go_num, by omega, by rw [HC.out, if_neg (fun h => by have := HKK.out; have := HBI.out; have := HBB.out; rcases h with ⟨h1, h2⟩ | ⟨h1, h2⟩ | ⟨h1, h2, h3⟩ <;> first | omega | (rw [HV1.out] at h2; cases h2) | (rw [HV0.out] at h2; cases h2) | (rw [HV0.out] at h3; cases h3) | (subst h2; omega))]; exact HW2.out, HE1.out⟩
          case measure => simp [intOf]; omega
      · by_cases hk1 : kk = 1
        · subst hk1
          cases v0 with
          | true =>
            simp only [if_true] at hx0
            go_wp2
            go_roundw
            case rel => exact ⟨i + 1, by go_num, by omega, by rw [HC.out, if_pos (.inr (.inl ⟨by have := HKK.out; omega, HV0.out⟩))]; exact HS.out, HE2.out⟩
            case measure => simp [intOf]; omega
          | false =>
            simp only [Bool.false_eq_true, if_false] at hx0
            go_wp2
            go_roundw
            case rel => exact ⟨i + 1, by go_num, by omega, by rw [HC.out, if_neg (fun h => by have := HKK.out; have := HBI.out; have := HBB.out; rcases h with ⟨h1, h2⟩ | ⟨h1, h2⟩ | ⟨h1, h2, h3⟩ <;> first | omega | (rw [HV1.out] at h2; cases h2) | (rw [HV0.out] at h2; cases h2) | (rw [HV0.out] at h3; cases h3) | (subst h2; omega))]; exact HW2.out, HE1.out⟩
            case measure => simp [intOf]; omega
        · by_cases hk0 : kk = 0
          · subst hk0
            by_cases hbe : bi = bb
            · subst hbe
              cases v0 with
              | true =>
                simp only [if_true] at hx0
                go_wp2
                go_roundw
                case rel => exact ⟨i + 1, by go_num, by omega, by rw [HC.out, if_pos (.inr (.inr ⟨by have := HKK.out; omega, UInt8.toNat_inj.1 (by have := HBI.out; have := HBB.out; omega), HV0.out⟩))]; exact HS.out, HE2.out⟩
                case measure => simp [intOf]; omega
              | false =>
                simp only [Bool.false_eq_true, if_false] at hx0
                go_wp2
                go_roundw
                case rel => exact ⟨i + 1, by go_num, by omega, by rw [HC.out, if_neg (fun h => by have := HKK.out; have := HBI.out; have := HBB.out; rcases h with ⟨h1, h2⟩ | ⟨h1, h2⟩ | ⟨h1, h2, h3⟩ <;> first | omega | (rw [HV1.out] at h2; cases h2) | (rw [HV0.out] at h2; cases h2) | (rw [HV0.out] at h3; cases h3) | (subst h2; omega))]; exact HW2.out, HE1.out⟩
                case measure => simp [intOf]; omega
            · have HBE := Lib.hid hbe
              go_wp2
              go_roundw
              case rel => exact ⟨i + 1, by go_num, by omega, by rw [HC.out, if_neg (fun h => by have := HKK.out; rcases h with ⟨h1, _⟩ | ⟨h1, _⟩ | ⟨_, h2, _⟩; omega; omega; exact HBE.out (by rw [← HBI.out, ← HBB.out, h2]))]; exact HW2.out, HE1.out⟩
              case measure => simp [intOf]; omega
          · have HK0 := Lib.hid hk0
            have HK1 := Lib.hid hk1
            have HK2 := Lib.hid hk2
            go_wp2
            go_roundw
            case rel => exact ⟨i + 1, by go_num, by omega, by rw [HC.out, if_neg (fun h => by have := HKK.out; have := HK0.out; have := HK1.out; have := HK2.out; rcases h with ⟨h1, _⟩ | ⟨h1, _⟩ | ⟨h1, _⟩ <;> omega)]; exact HW2.out, HE1.out⟩
            case measure => simp [intOf]; omega
    · obtain rfl : i = es.length := by omega
      have hbx2 : wr.cell? ⟨w.heap.size, 0, none⟩ = some (.slice a es.length ca) := heff.cell (p := ⟨w.heap.size, 0, none⟩) (fun h => by have h : w.heap.size = w.heap.size + 1 := h; omega) HBX.out
      have hrl2 : RdL (w.heap.size + 1) wr (.slice a es.length ca) es := fun w' hb' => HRL.out w' (hbl.trans hb')
      have hsl : (stepI es D b es.length).length = N := by rw [stepI_length]; exact HDN.out
      have C1 := close_any wr (w.heap.size + 1) (w.heap.size + 1) N a es.length ca es (stepI es D b es.length) hrl2 (by rw [hsl]; exact hown) (by omega) (by have := hbl.size; rw [HS2.out] at this; omega) (by omega)
      rw [hsl, show closeI es (stepI es D b es.length) es.length = stepL es D b from rfl] at C1
      have hrlen : (stepL es D b).length = N := by unfold stepL; rw [closeI_length]; exact hsl
      have HRLEN := Lib.hid hrlen
      have HB2 := Lib.hid (HB1.out.trans (hbl.mono (by omega)))
      clear hrl2 hsl hown heff hrlen hbl
      go_wp2_with fail
      refine C1.mono ?_
      rintro e w2 ⟨rfl, ho2, he2⟩
      have hb2 := HB2.out.trans (he2.below (B := w.heap.size) (fun k hk => by subst hk; omega) HB2.out.size)
      have r4 := run_str (P := Tryd.prog) Tryd.underlying26 Tryd.underlying5 Tryd.underlying9 ho2.rd
      obtain ⟨r, hrr⟩ : ∃ r, stepL es D b = r := ⟨_, rfl⟩
      rw [hrr] at ho2 r4 HRLEN
      have HRR := Lib.hid hrr
      have HO2 := Lib.hid ho2
      have HB3 := Lib.hid hb2
      clear C1 he2 ho2 hb2 hbx2 hrr
      go_wp2
      go_loopw [73] (fun s73 wr => ∃ j : Nat, s73 = .int .i64 j ∧ j ≤ N ∧ (r.take j).any id = false ∧ w2 = wr) (fun s73 _ => N - (intOf s73).toNat)
      case atStart => exact ⟨0, rfl, Nat.zero_le _, rfl, rfl⟩
      case round =>
        obtain ⟨j, rfl, hj, hno, rfl⟩ := hrel
        by_cases hjl : j < N
        · have hg := HO2.out.get (setV_get (s := r) (i := j) (by rw [HRLEN.out]; exact hjl))
          obtain ⟨v, hv⟩ : ∃ v, r.getD j false = v := ⟨_, rfl⟩
          rw [hv] at hg
          have HV := Lib.hid hv
          have HNO := Lib.hid hno
          clear hv hno
          cases v with
          | true =>
            simp only [if_true] at hg
            go_wp2
            go_ret
            exact ⟨by rw [show stepS es D b = strB r by unfold stepS; rw [HRR.out, if_pos (any_hit (by rw [HRLEN.out]; exact hjl) HV.out)]]; rfl, HB3.out⟩
          | false =>
            simp only [Bool.false_eq_true, if_false] at hg
            go_wp2
            go_roundw
            case rel => exact ⟨j + 1, by go_num, by omega, any_take HNO.out (by rw [HRLEN.out]; exact hjl) HV.out, by first | rfl | trivial⟩
            case measure => simp [intOf]; omega
        · obtain rfl : j = N := by omega
          have hall : r.any id = false := by rw [← HRLEN.out, List.take_length] at hno; exact hno
          have HA := Lib.hid hall
          clear hno hall
          go_wp2
          go_ret
          exact ⟨by rw [show stepS es D b = ⟨#[]⟩ by unfold stepS; rw [HRR.out, if_neg (by rw [HA.out]; simp)]]; rfl, HB3.out⟩
end Go.Proofs.YtejmjjgbbojfbaaDoor

/- auto.Wild: the automaton of a pattern; lives. -/
namespace Go.Proofs.YtejmjjgbbojfbaaDoor
set_option linter.unusedVariables false
open Go.ChangeShapes Go.WideShapes Go.ChangeAt Go.RowKit

theorem stepL_length (es : List PEl) (D : List Bool) (b : UInt8) : (stepL es D b).length = D.length := by unfold stepL; rw [closeI_length, stepI_length]
theorem startL_length (es : List PEl) : (startL es).length = es.length + 1 := by unfold startL; rw [closeI_length]; simp
theorem elems_len : ∀ (s : List UInt8) (es : List PEl), elems s = some es → es.length ≤ s.length
  | [], es, h => by rw [elems] at h; injection h with h; rw [← h]; simp
  | [c], es, h => by
    rw [elems] at h
    split at h
    · injection h with h; rw [← h]; simp
    · split at h
      · injection h with h; rw [← h]; simp
      · split at h
        · cases h
        · injection h with h; rw [← h]; simp
  | c :: d :: r, es, h => by
    have key : ∀ (r' : List UInt8) (e : PEl), (∀ es, elems r' = some es → es.length ≤ r'.length) → r'.length ≤ r.length + 1 → (elems r').map (e :: ·) = some es → es.length ≤ (c :: d :: r).length := fun r' e ih hl h => by
      cases hr : elems r' with
      | none => rw [hr] at h; cases h
      | some x =>
        rw [hr] at h; injection h with h
        have := ih x hr
        rw [← h]; simp; omega
    rw [elems] at h
    split at h
    · exact key (d :: r) _ (elems_len (d :: r)) (by simp) h
    · split at h
      · exact key (d :: r) _ (elems_len (d :: r)) (by simp) h
      · split at h
        · exact key r _ (elems_len r) (by simp) h
        · exact key (d :: r) _ (elems_len (d :: r)) (by simp) h
theorem wildM_auto {w : World} {p : Nat} {a : Option Addr} {n c : Nat} {es : List PEl} (hr : RdE w (.slice a n c) es) (hes : es.length ≤ 1000000000) (hc : w.cell? ⟨p, 0, none⟩ = some (.iface 93 (.agg #[.slice a n c]))) : IsAuto w p (wildM es) := by
  refine ⟨World.block_lt_of_cell? w _ hc, 93, .agg #[.slice a n c], 115, 116, 114, fun d => ∃ D : List Bool, D.length = es.length + 1 ∧ d = strB D, ⟨hc, fun d ⟨D, hD, e⟩ => by rw [e]; unfold strB; rw [strOf_size]; simp [bitsB]; omega⟩, ⟨fun w => by kernel_rfl, fun args w => by kernel_rfl⟩, ⟨fun w => by kernel_rfl, fun args w => by kernel_rfl⟩, ⟨fun w => by kernel_rfl, fun args w => by kernel_rfl⟩,
    fun _ => ⟨startL es, startL_length es, rfl⟩, ?_, ?_⟩
  · rintro d b ⟨D, hD, rfl⟩ _ hne
    refine ⟨stepL es D b, by rw [stepL_length]; exact hD, ?_⟩
    show (if (stepL es (boolsOf (strB D)) b).any id then strB (stepL es (boolsOf (strB D)) b) else ⟨#[]⟩) = _
    have hne' : (if (stepL es (boolsOf (strB D)) b).any id then strB (stepL es (boolsOf (strB D)) b) else ⟨#[]⟩) ≠ (⟨#[]⟩ : ByteArray) := hne
    rw [boolsOf_strB] at hne' ⊢
    split
    · rfl
    · next h => rw [if_neg h] at hne'; exact absurd rfl hne'
  · intro w' hb
    have hr' := hr.below hb
    refine ⟨wstart_any w' a n c es hr' hes, ?_, ?_⟩
    · rintro d b ⟨D, hD, rfl⟩ _
      refine (wstep_any w' a n c es hr' hes _ D rfl hD b).mono fun e w'' ⟨h1, h2⟩ => ⟨?_, h2⟩
      rw [h1]
      show _ = Ending.returned (.string (if (stepL es (boolsOf (strB D)) b).any id then strB (stepL es (boolsOf (strB D)) b) else ⟨#[]⟩))
      rw [boolsOf_strB]; rfl
    · rintro d ⟨D, hD, rfl⟩ _
      refine (wacc_any w' a n c es hr' hes _ D rfl hD).mono fun e w'' ⟨h1, h2⟩ => ⟨?_, h2⟩
      rw [h1]
      show _ = Ending.returned (.bool ((boolsOf (strB D)).getD es.length false))
      rw [boolsOf_strB]
/-- What Wild answers. -/
def WildPost (w : World) (s : ByteArray) (eP : Value) (e : Ending) (w' : World) : Prop :=
  (∀ es, elems s.data.toList = some es → ∃ p, e = .returned (.tuple #[.pointer (some ⟨p, 0, none⟩), .nilIface]) ∧ w.heap.size ≤ p ∧ IsAuto w' p (wildM es) ∧ Below w.heap.size w w') ∧
  (elems s.data.toList = none → e = .returned (.tuple #[.pointer none, eP]) ∧ Below w.heap.size w w')
set_option maxRecDepth 100000 in
set_option maxHeartbeats 1000000 in
theorem wild_any (w : World) (s : ByteArray) (hs : s.size ≤ 1000000000) (eP : Value) (hP : w.cell? ⟨2, 0, none⟩ = some eP) :
    Calls Tryd.prog 23 #[.string s] w (WildPost w s eP) := by
  have C0 := elements_any w s (by omega)
  have hsl : s.size = s.data.toList.length := (Array.length_toList (xs := s.data)).symm
  cases hes : elems s.data.toList with
  | none =>
    have HES := Lib.hid hes
    clear hes hsl
    go_enter Tryd.func23, Tryd.ntmps23
    go_wp2_with fail
    refine C0.mono ?_
    rintro e w1 ⟨_, h2⟩
    obtain ⟨rfl, hb1⟩ := h2 HES.out
    have hP1 : w1.cell? ⟨2, 0, none⟩ = some eP := by rw [hb1.cell (World.block_lt_of_cell? w _ hP)]; exact hP
    have HB := Lib.hid hb1
    clear C0 h2 hb1
    go_wp2
    go_quiet (fail)
    go_wp2
    go_ret2
    exact ⟨fun es h => absurd (HES.out.symm.trans h) (by simp), fun _ => ⟨rfl, below_drewN HB.out _⟩⟩
  | some es =>
    have hel := elems_len _ _ hes
    have hel2 : es.length ≤ 1000000000 := by omega
    have HES := Lib.hid hes
    clear hes hsl hel
    go_enter Tryd.func23, Tryd.ntmps23
    go_wp2_with fail
    refine C0.mono ?_
    rintro e w1 ⟨h1, _⟩
    obtain ⟨v, rfl, hrow, hb1⟩ := h1 es HES.out
    obtain ⟨a, c, rfl⟩ := hrow.sl
    have hrd := hrow.rd
    have hn := heap_alloc_new w1 (.cells #[.iface 93 (.agg #[.slice a es.length c])] 83)
    have hb2 : Below w1.heap.size w1 (w1.alloc (.cells #[.iface 93 (.agg #[.slice a es.length c])] 83)) := (Below.refl _ _).alloc (Nat.le_refl _) _
    have ha := wildM_auto (p := w1.heap.size) (hrd.below hb2) hel2 (blk_cell hn 0)
    have HA := Lib.hid ha
    have HB := Lib.hid (hb1.trans (hb2.mono hb1.size))
    have HSZ := Lib.hid hb1.size
    clear C0 h1 hrow hrd hn ha hb1 hb2
    go_wp2
    go_ret2
    exact ⟨fun es' h => by
      have : es = es' := Option.some.inj (HES.out.symm.trans h)
      subst this
      exact ⟨w1.heap.size, rfl, HSZ.out, HA.out, HB.out⟩, fun h => absurd (HES.out.symm.trans h) (by simp)⟩

def livesE : List PEl := [(0, 97), (1, 0), (0, 98), (2, 0)]
theorem lives1 : accM (wildM livesE) [97, 120, 98] = true := by decide +kernel
theorem lives2 : accM (wildM livesE) [97, 120, 98, 121, 121] = true := by decide +kernel
theorem lives3 : aliveM (wildM livesE) [97] = true := by decide +kernel
theorem lives4 : accM (wildM livesE) [97, 98] = false := by decide +kernel
theorem lives5 : aliveM (wildM livesE) [98] = false := by decide +kernel
set_option maxRecDepth 100000 in
theorem lives_any (w : World) (eP : Value) (hP : w.cell? ⟨2, 0, none⟩ = some eP) :
    Calls Tryd.prog 13 #[] w fun e w' => e = .returned (.bool true) ∧ Below w.heap.size w w' := by
  have C0 := wild_any w ⟨#[97, 63, 98, 42]⟩ (by decide) eP hP
  go_enter Tryd.func13, Tryd.ntmps13
  go_wp2_with fail
  refine C0.mono ?_
  rintro e w1 ⟨h1, _⟩
  obtain ⟨p, rfl, _, ha1, hb1⟩ := h1 livesE rfl
  have C1 := accepts_any w1 p _ ha1 ⟨#[97, 120, 98]⟩ (by decide)
  rw [show accM (wildM livesE) (⟨#[97, 120, 98]⟩ : ByteArray).data.toList = true from lives1] at C1
  have HA1 := Lib.hid ha1
  have HB1 := Lib.hid hb1
  clear C0 h1 ha1 hb1
  go_wp2_with fail
  refine C1.mono ?_
  rintro e w2 ⟨rfl, hb2⟩
  have ha2 := HA1.out.below hb2
  have C2 := accepts_any w2 p _ ha2 ⟨#[97, 120, 98, 121, 121]⟩ (by decide)
  rw [show accM (wildM livesE) (⟨#[97, 120, 98, 121, 121]⟩ : ByteArray).data.toList = true from lives2] at C2
  have HA2 := Lib.hid ha2
  have HB2 := Lib.hid (HB1.out.trans (hb2.mono HB1.out.size))
  clear C1 ha2 hb2
  go_wp2_with fail
  refine C2.mono ?_
  rintro e w3 ⟨rfl, hb3⟩
  have ha3 := HA2.out.below hb3
  have C3 := alive_any w3 p _ ha3 ⟨#[97]⟩ (by decide)
  rw [show aliveM (wildM livesE) (⟨#[97]⟩ : ByteArray).data.toList = true from lives3] at C3
  have HA3 := Lib.hid ha3
  have HB3 := Lib.hid (HB2.out.trans (hb3.mono HB2.out.size))
  clear C2 ha3 hb3
  go_wp2_with fail
  refine C3.mono ?_
  rintro e w4 ⟨rfl, hb4⟩
  have ha4 := HA3.out.below hb4
  have C4 := accepts_any w4 p _ ha4 ⟨#[97, 98]⟩ (by decide)
  rw [show accM (wildM livesE) (⟨#[97, 98]⟩ : ByteArray).data.toList = false from lives4] at C4
  have HA4 := Lib.hid ha4
  have HB4 := Lib.hid (HB3.out.trans (hb4.mono HB3.out.size))
  clear C3 ha4 hb4
  go_wp2_with fail
  refine C4.mono ?_
  rintro e w5 ⟨rfl, hb5⟩
  have ha5 := HA4.out.below hb5
  have C5 := alive_any w5 p _ ha5 ⟨#[98]⟩ (by decide)
  rw [show aliveM (wildM livesE) (⟨#[98]⟩ : ByteArray).data.toList = false from lives5] at C5
  have HB5 := Lib.hid (HB4.out.trans (hb5.mono HB4.out.size))
  clear C4 ha5 hb5
  go_wp2_with fail
  refine C5.mono ?_
  rintro e w6 ⟨rfl, hb6⟩
  have HB6 := Lib.hid (HB5.out.trans (hb6.mono HB5.out.size))
  clear C5 hb6
  go_wp2
  go_ret
  exact ⟨rfl, HB6.out⟩
end Go.Proofs.YtejmjjgbbojfbaaDoor
