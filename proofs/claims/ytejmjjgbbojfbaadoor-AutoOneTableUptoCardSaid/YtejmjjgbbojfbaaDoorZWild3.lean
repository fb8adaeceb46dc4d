/- The walk of a pattern's step (printed by wip/gen_wild3.py). -/
import Derived.Test.YtejmjjgbbojfbaaDoorZG7
namespace Go.Proofs.YtejmjjgbbojfbaaDoor
set_option linter.unusedVariables false
open Go.ChangeShapes Go.WideShapes Go.ChangeAt Go.RowKit

theorem strB_ix {d : ByteArray} {D : List Bool} (hd : d = strB D) (i : Nat) (h : i < d.size) : ((d[i]'h).toNat : Int) = if D.getD i false then 1 else 0 := by
  have e : d.data.toList = bitsB D := by rw [hd]; unfold strB strOf; rw [List.toList_toArray]
  have hs : d.size = D.length := by rw [hd, strB, strOf_size, bitsB_length]
  have e2 : d[i]'h = d.data.toList[i]'(by rw [e, bitsB_length]; omega) := rfl
  have e3 : (d.data.toList)[i]? = some (bitB (D.getD i false)) := by
    rw [e]; unfold bitsB; rw [List.getElem?_map, List.getElem?_eq_getElem (by omega), List.getD_eq_getElem?_getD, List.getElem?_eq_getElem (by omega)]; rfl
  obtain ⟨_, e6⟩ := List.getElem?_eq_some_iff.1 e3
  rw [e2, e6]
  cases D.getD i false <;> rfl
def stepS (es : List PEl) (D : List Bool) (b : UInt8) : ByteArray := if (stepL es D b).any id then strB (stepL es D b) else ⟨#[]⟩
theorem any_take {r : List Bool} {j : Nat} (h : (r.take j).any id = false) (hj : j < r.length) (h2 : r.getD j false = false) : (r.take (j + 1)).any id = false := by
  rw [List.take_add_one, List.getElem?_eq_getElem hj, List.any_append, h]
  rw [List.getD_eq_getElem?_getD, List.getElem?_eq_getElem hj] at h2
  simpa using h2
theorem any_hit {r : List Bool} {j : Nat} (hj : j < r.length) (h2 : r.getD j false = true) : r.any id = true := by
  rw [List.getD_eq_getElem?_getD, List.getElem?_eq_getElem hj] at h2
  exact List.any_eq_true.2 ⟨r[j], List.getElem_mem hj, h2⟩

set_option maxRecDepth 100000 in
set_option maxHeartbeats 2000000 in
theorem wstep_any (w : World) (a : Option Addr) (n ca : Nat) (es : List PEl) (hr : RdE w (.slice a n ca) es) (hes : es.length ≤ 1000000000) (d : ByteArray) (D : List Bool) (hd : d = strB D) (hD : D.length = es.length + 1) (b : UInt8) :
    Calls Tryd.prog 116 #[.agg #[.slice a n ca], .string d, .int .u8 (b.toNat : Nat)] w fun e w' => e = .returned (.string (stepS es D b)) ∧ Below w.heap.size w w' := by
  obtain rfl := hr.k.1
  obtain ⟨N, hN⟩ : ∃ N, d.size = N := ⟨_, rfl⟩
  have hDN : D.length = N := by rw [← hN, hd, strB, strOf_size, bitsB_length]
  have q1 : N ≤ es.length + 1 := by omega
  have q1b : es.length + 1 ≤ N := by omega
  have q2 : (N : Int) ≤ 1000000001 := by omega
  have q3 : N ≤ 1000000000000 := by omega
  obtain ⟨ob, hob⟩ : ∃ ob, ob = Obj.cells #[.slice a es.length ca] 93 := ⟨_, rfl⟩
  obtain ⟨om, hom⟩ : ∃ om, om = Obj.cells (madeCells #[.int .u8 0] N) 5 := ⟨_, rfl⟩
  have hb1 : Below w.heap.size w ((w.alloc ob).alloc om) := ((Below.refl _ _).alloc (Nat.le_refl _) _).alloc (by simp) _
  have hs1 : (w.alloc ob).heap.size = w.heap.size + 1 := by simp
  have hs2 : ((w.alloc ob).alloc om).heap.size = w.heap.size + 2 := by simp
  have ho : Own ((w.alloc ob).alloc om) (w.heap.size + 1) 5 (.slice (some ⟨w.heap.size + 1, 0, none⟩) N N) (setV (stepI es D b 0)) := by
    have h := own_lit (w.alloc ob) (w.heap.size + 1) 5 (setV (List.replicate N false)) (by rw [hs1]; exact Nat.le_refl _) (by rw [setV_length]; simp [maxLen]; omega)
    rw [← madeB, ← hom, hs1, setV_length, List.length_replicate] at h
    rw [stepI, hDN]; exact h
  have hbx : ((w.alloc ob).alloc om).cell? ⟨w.heap.size, 0, none⟩ = some (.slice a es.length ca) := by
    have h : ((w.alloc ob).alloc om).heap[w.heap.size]? = some ob := (Below.heap_alloc (w.alloc ob) om w.heap.size (by rw [hs1]; omega)).trans (heap_alloc_new w ob)
    exact blk_cell (h.trans (congrArg some hob)) 0
  obtain ⟨w1, hw1⟩ : ∃ w1, w1 = (w.alloc ob).alloc om := ⟨_, rfl⟩
  rw [← hw1] at hb1 hs2 ho hbx
  have hrl : RdL (w.heap.size + 1) w1 (.slice a es.length ca) es := hr.rl hb1 (by omega)
  have hdl : ∀ i, i < N → ∀ h : i < d.size, ((d[i]'h).toNat : Int) = if D.getD i false then 1 else 0 := fun i _ h => strB_ix hd i h
  have HDL := Lib.hid hdl
  have HRL := Lib.hid hrl
  have HOB := Lib.hid hob
  have HOM := Lib.hid hom
  have HB1 := Lib.hid hb1
  have HO := Lib.hid ho
  have HBX := Lib.hid hbx
  have HDN := Lib.hid hDN
  have HW1 := Lib.hid hw1
  have HNN := Lib.hid hN
  have q5 : (d.size : Int) = (N : Int) := by omega
  have hmk := fun (w : World) => make_row elBytes rfl N q3 (N : Int) rfl w
  have HS2 := Lib.hid hs2
  clear hdl hrl hb1 ho hbx hDN hr hd hD hN hs1
  go_enter Tryd.func116, Tryd.ntmps116
  go_wp2
  rw [← HOB.out, ← HOM.out, ← HW1.out]
  go_loopw [18] (fun s18 wr => ∃ i : Nat, s18 = .int .i64 i ∧ i ≤ es.length ∧ Own wr (w.heap.size + 1) 5 (.slice (some ⟨w.heap.size + 1, 0, none⟩) N N) (setV (stepI es D b i)) ∧ Eff (· = w.heap.size + 1) w1 wr) (fun s18 _ => es.length - (intOf s18).toNat)
  case atStart => exact ⟨0, rfl, Nat.zero_le _, HO.out, Eff.refl _ _⟩
  case round =>
    clear HO
    obtain ⟨i, rfl, hi, hown, heff⟩ := hrel
    have hbl : Below (w.heap.size + 1) w1 wr := heff.below (fun k hk => by subst hk; exact Nat.le_refl _) (by rw [HS2.out]; omega)
    by_cases hlt : i < es.length
    · obtain ⟨gl, rfl, k0, k1⟩ := (HRL.out wr hbl).k.2 i hlt
      have hi0 : i < d.size := by rw [HNN.out]; omega
      have hi1 : i + 1 < d.size := by rw [HNN.out]; omega
      have hx0 := HDL.out i (by omega) hi0
      have hx1 := HDL.out (i + 1) (by omega) hi1
      obtain ⟨t, ht⟩ : ∃ t, stepI es D b i = t := ⟨_, rfl⟩
      have htl : t.length = N := by rw [← ht, stepI_length]; exact HDN.out
      have hc1 : stepI es D b (i + 1) = if takes es D b i then t.set (i + 1) true else t := by rw [stepI, ht]
      rw [ht] at hown
      obtain ⟨o1, ho1⟩ : ∃ o1, o1 = Obj.cells #[.int .i64 (PEl.k es i : Nat), .int .u8 ((PEl.b es i).toNat : Nat)] 131 := ⟨_, rfl⟩
      have hown1 := hown.alloc o1
      have hget1 := hown1.get (setV_get (s := t) (i := i + 1) (by omega))
      have hfz := hown1.frozen (i + 1)
      have hset := hown1.set (i + 1) (.int .u8 1)
      rw [setV_set] at hset
      have heff1 := heff.alloc o1
      have heff2 := heff1.setCell (p := ⟨w.heap.size + 1, i + 1, none⟩) (fun _ => rfl) (.int .u8 1)
      obtain ⟨kk, hkk⟩ : ∃ kk : Int, ((PEl.k es i : Nat) : Int) = kk := ⟨_, rfl⟩
      obtain ⟨bi, hbi⟩ : ∃ bi : Int, ((PEl.b es i).toNat : Int) = bi := ⟨_, rfl⟩
      obtain ⟨bb, hbb⟩ : ∃ bb : Int, (b.toNat : Int) = bb := ⟨_, rfl⟩
      rw [hkk] at k0 ho1
      rw [hbi] at k1 ho1
      rw [hbb]
      have HKK := Lib.hid hkk
      have HBI := Lib.hid hbi
      have HBB := Lib.hid hbb
      rw [ho1] at hget1 hfz hset heff1 heff2 hown1
      have HC := Lib.hid hc1
      have HS := Lib.hid hset
      have HE1 := Lib.hid heff1
      have HE2 := Lib.hid heff2
      have HW2 := Lib.hid hown1
      obtain ⟨v0, hv0⟩ : ∃ v0, D.getD i false = v0 := ⟨_, rfl⟩
      obtain ⟨v1, hv1⟩ : ∃ v1, D.getD (i + 1) false = v1 := ⟨_, rfl⟩
      rw [hv0] at hx0
      rw [hv1] at hx1
      have HV0 := Lib.hid hv0
      have HV1 := Lib.hid hv1
      clear ht ho1 hc1 hset heff1 heff2 hown1 hown heff hbl htl hkk hbi hbb hv0 hv1
      by_cases hk2 : kk = 2
      · subst hk2
        cases v1 with
        | true =>
          simp only [if_true] at hx1
          go_wp2
          go_roundw
          case rel => exact ⟨i + 1, by go_num, by omega, by rw [HC.out, if_pos (.inl ⟨by have := HKK.out; omega, HV1.out⟩)]; exact HS.out, HE2.out⟩
          case measure => simp [intOf]; omega
        | false =>
          simp only [Bool.false_eq_true, if_false] at hx1
          go_wp2
          go_roundw
          case rel => exact ⟨i + 1, by go_num, by omega, by rw [HC.out, if_neg (fun h => by have := HKK.out; have := HBI.out; have := HBB.out; rcases h with ⟨h1, h2⟩ | ⟨h1, h2⟩ | ⟨h1, h2, h3⟩ <;> first | omega | (rw [HV1.out] at h2; cases h2) | (rw [HV0.out] at h2; cases h2) | (rw [HV0.out] at h3; cases h3) | (subst h2; omega))]; exact HW2.out, HE1.out⟩
          case measure => simp [intOf]; omega
      · by_cases hk1 : kk = 1
        · subst hk1
          cases v0 with
          | true =>
            simp only [if_true] at hx0
            go_wp2
            go_roundw
            case rel => exact ⟨i + 1, by go_num, by omega, by rw [HC.out, if_pos (.inr (.inl ⟨by have := HKK.out; omega, HV0.out⟩))]; exact HS.out, HE2.out⟩
            case measure => simp [intOf]; omega
          | false =>
            simp only [Bool.false_eq_true, if_false] at hx0
            go_wp2
            go_roundw
            case rel => exact ⟨i + 1, by go_num, by omega, by rw [HC.out, if_neg (fun h => by have := HKK.out; have := HBI.out; have := HBB.out; rcases h with ⟨h1, h2⟩ | ⟨h1, h2⟩ | ⟨h1, h2, h3⟩ <;> first | omega | (rw [HV1.out] at h2; cases h2) | (rw [HV0.out] at h2; cases h2) | (rw [HV0.out] at h3; cases h3) | (subst h2; omega))]; exact HW2.out, HE1.out⟩
            case measure => simp [intOf]; omega
        · by_cases hk0 : kk = 0
          · subst hk0
            by_cases hbe : bi = bb
            · subst hbe
              cases v0 with
              | true =>
                simp only [if_true] at hx0
                go_wp2
                go_roundw
                case rel => exact ⟨i + 1, by go_num, by omega, by rw [HC.out, if_pos (.inr (.inr ⟨by have := HKK.out; omega, UInt8.toNat_inj.1 (by have := HBI.out; have := HBB.out; omega), HV0.out⟩))]; exact HS.out, HE2.out⟩
                case measure => simp [intOf]; omega
              | false =>
                simp only [Bool.false_eq_true, if_false] at hx0
                go_wp2
                go_roundw
                case rel => exact ⟨i + 1, by go_num, by omega, by rw [HC.out, if_neg (fun h => by have := HKK.out; have := HBI.out; have := HBB.out; rcases h with ⟨h1, h2⟩ | ⟨h1, h2⟩ | ⟨h1, h2, h3⟩ <;> first | omega | (rw [HV1.out] at h2; cases h2) | (rw [HV0.out] at h2; cases h2) | (rw [HV0.out] at h3; cases h3) | (subst h2; omega))]; exact HW2.out, HE1.out⟩
                case measure => simp [intOf]; omega
            · have HBE := Lib.hid hbe
              go_wp2
              go_roundw
              case rel => exact ⟨i + 1, by go_num, by omega, by rw [HC.out, if_neg (fun h => by have := HKK.out; rcases h with ⟨h1, _⟩ | ⟨h1, _⟩ | ⟨_, h2, _⟩; omega; omega; exact HBE.out (by rw [← HBI.out, ← HBB.out, h2]))]; exact HW2.out, HE1.out⟩
              case measure => simp [intOf]; omega
          · have HK0 := Lib.hid hk0
            have HK1 := Lib.hid hk1
            have HK2 := Lib.hid hk2
            go_wp2
            go_roundw
            case rel => exact ⟨i + 1, by go_num, by omega, by rw [HC.out, if_neg (fun h => by have := HKK.out; have := HK0.out; have := HK1.out; have := HK2.out; rcases h with ⟨h1, _⟩ | ⟨h1, _⟩ | ⟨h1, _⟩ <;> omega)]; exact HW2.out, HE1.out⟩
            case measure => simp [intOf]; omega
    · obtain rfl : i = es.length := by omega
      have hbx2 : wr.cell? ⟨w.heap.size, 0, none⟩ = some (.slice a es.length ca) := heff.cell (p := ⟨w.heap.size, 0, none⟩) (fun h => by have h : w.heap.size = w.heap.size + 1 := h; omega) HBX.out
      have hrl2 : RdL (w.heap.size + 1) wr (.slice a es.length ca) es := fun w' hb' => HRL.out w' (hbl.trans hb')
      have hsl : (stepI es D b es.length).length = N := by rw [stepI_length]; exact HDN.out
      have C1 := close_any wr (w.heap.size + 1) (w.heap.size + 1) N a es.length ca es (stepI es D b es.length) hrl2 (by rw [hsl]; exact hown) (by omega) (by have := hbl.size; rw [HS2.out] at this; omega) (by omega)
      rw [hsl, show closeI es (stepI es D b es.length) es.length = stepL es D b from rfl] at C1
      have hrlen : (stepL es D b).length = N := by unfold stepL; rw [closeI_length]; exact hsl
      have HRLEN := Lib.hid hrlen
      have HB2 := Lib.hid (HB1.out.trans (hbl.mono (by omega)))
      clear hrl2 hsl hown heff hrlen hbl
      go_wp2_with fail
      refine C1.mono ?_
      rintro e w2 ⟨rfl, ho2, he2⟩
      have hb2 := HB2.out.trans (he2.below (B := w.heap.size) (fun k hk => by subst hk; omega) HB2.out.size)
      have r4 := run_str (P := Tryd.prog) Tryd.underlying26 Tryd.underlying5 Tryd.underlying9 ho2.rd
      obtain ⟨r, hrr⟩ : ∃ r, stepL es D b = r := ⟨_, rfl⟩
      rw [hrr] at ho2 r4 HRLEN
      have HRR := Lib.hid hrr
      have HO2 := Lib.hid ho2
      have HB3 := Lib.hid hb2
      clear C1 he2 ho2 hb2 hbx2 hrr
      go_wp2
      go_loopw [73] (fun s73 wr => ∃ j : Nat, s73 = .int .i64 j ∧ j ≤ N ∧ (r.take j).any id = false ∧ w2 = wr) (fun s73 _ => N - (intOf s73).toNat)
      case atStart => exact ⟨0, rfl, Nat.zero_le _, rfl, rfl⟩
      case round =>
        obtain ⟨j, rfl, hj, hno, rfl⟩ := hrel
        by_cases hjl : j < N
        · have hg := HO2.out.get (setV_get (s := r) (i := j) (by rw [HRLEN.out]; exact hjl))
          obtain ⟨v, hv⟩ : ∃ v, r.getD j false = v := ⟨_, rfl⟩
          rw [hv] at hg
          have HV := Lib.hid hv
          have HNO := Lib.hid hno
          clear hv hno
          cases v with
          | true =>
            simp only [if_true] at hg
            go_wp2
            go_ret
            exact ⟨by rw [show stepS es D b = strB r by unfold stepS; rw [HRR.out, if_pos (any_hit (by rw [HRLEN.out]; exact hjl) HV.out)]]; rfl, HB3.out⟩
          | false =>
            simp only [Bool.false_eq_true, if_false] at hg
            go_wp2
            go_roundw
            case rel => exact ⟨j + 1, by go_num, by omega, any_take HNO.out (by rw [HRLEN.out]; exact hjl) HV.out, by first | rfl | trivial⟩
            case measure => simp [intOf]; omega
        · obtain rfl : j = N := by omega
          have hall : r.any id = false := by rw [← HRLEN.out, List.take_length] at hno; exact hno
          have HA := Lib.hid hall
          clear hno hall
          go_wp2
          go_ret
          exact ⟨by rw [show stepS es D b = ⟨#[]⟩ by unfold stepS; rw [HRR.out, if_neg (by rw [HA.out]; simp)]]; rfl, HB3.out⟩
end Go.Proofs.YtejmjjgbbojfbaaDoor
