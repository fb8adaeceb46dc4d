/- The walk of a word's step. -/
import Derived.Test.YtejmjjgbbojfbaaDoorZG16
import Derived.BigRegion
namespace Go.Proofs.YtejmjjgbbojfbaaDoor
set_option linter.unusedVariables false
open Go.ChangeShapes Go.WideShapes Go.ChangeAt Go.RowKit

def stepFS (w : List UInt8) (m : Nat) (D : List Nat) (b : UInt8) : ByteArray := if (stepF w m D b).any (fun x => decide (x ≤ m)) then strN (stepF w m D b) else ⟨#[]⟩
/-- Is one of the first i values no more than m? -/
def anyLe (f : Nat → Nat) (m i : Nat) : Bool := (List.range i).any fun j => decide (f j ≤ m)
theorem anyLe_succ (f : Nat → Nat) (m i : Nat) : anyLe f m (i + 1) = (anyLe f m i || decide (f i ≤ m)) := by
  unfold anyLe; rw [List.range_succ, List.any_append]; simp

set_option maxRecDepth 100000 in
set_option maxHeartbeats 2000000 in
theorem fstep_any (w : World) (s : ByteArray) (m : Nat) (hs : s.size ≤ 1000000000) (hm : m ≤ 2) (d : ByteArray) (D : List Nat) (hd : d = strN D) (hD : D.length = s.size + 1) (hb : ∀ x ∈ D, x ≤ m + 1) (b : UInt8) :
    Calls Tryd.prog 113 #[.agg #[.string s, .int .u8 (m : Nat)], .string d, .int .u8 (b.toNat : Nat)] w fun e w' => e = .returned (.string (stepFS s.data.toList m D b)) ∧ Below w.heap.size w w' := by
  have hsl : s.size = s.data.toList.length := (Array.length_toList (xs := s.data)).symm
  obtain ⟨N, hN⟩ : ∃ N, d.size = N := ⟨_, rfl⟩
  have hDN : D.length = N := by rw [← hN, hd, strN, strOf_size, natB_length]
  have q1 : N ≤ s.size + 1 := by omega
  have q1b : s.size + 1 ≤ N := by omega
  have q2 : (N : Int) ≤ 1000000001 := by omega
  have q3 : N ≤ 1000000000000 := by omega
  have q5 : (d.size : Int) = (N : Int) := by omega
  have hix : ∀ i (h : i < d.size), ((d[i]'h).toNat : Int) = (D.getD i 0 : Nat) := fun i h => strN_ix hd (fun x hx => by have := hb x hx; omega) i h
  have hDb : ∀ i, D.getD i 0 ≤ m + 1 := fun i => by
    rw [List.getD_eq_getElem?_getD]
    cases hi : D[i]? with
    | none => simp
    | some v => exact hb v (List.mem_of_getElem? hi)
  obtain ⟨f, hf⟩ : ∃ f, fz s.data.toList m D b = f := ⟨_, rfl⟩
  have hfle : ∀ i, f i ≤ m + 1 := fun i => by rw [← hf]; exact fz_le _ _ _ _ i
  have h256 : ∀ n i, ∀ x ∈ rowI f n i, x < 256 := fun n i => rowI_lt hfle (by omega)
  obtain ⟨ob, hob⟩ : ∃ ob, ob = Obj.cells #[.string s, .int .u8 (m : Nat)] 79 := ⟨_, rfl⟩
  obtain ⟨om, hom⟩ : ∃ om, om = Obj.cells (madeCells #[.int .u8 0] N) 5 := ⟨_, rfl⟩
  have hb1 : Below w.heap.size w ((w.alloc ob).alloc om) := ((Below.refl _ _).alloc (Nat.le_refl _) _).alloc (by simp) _
  have hs1 : (w.alloc ob).heap.size = w.heap.size + 1 := by simp
  have hs2 : ((w.alloc ob).alloc om).heap.size = w.heap.size + 2 := by simp
  have ho : Own ((w.alloc ob).alloc om) (w.heap.size + 1) 5 (.slice (some ⟨w.heap.size + 1, 0, none⟩) N N) (setN (rowI f N 0)) := by
    have h := own_lit (w.alloc ob) (w.heap.size + 1) 5 (setN (List.replicate N 0)) (by rw [hs1]; exact Nat.le_refl _) (by rw [setN_length]; simp [maxLen]; omega)
    rw [← madeN, ← hom, hs1, setN_length, List.length_replicate] at h
    rw [rowI_zero]; exact h
  have hbx : ((w.alloc ob).alloc om).heap[w.heap.size]? = some (.cells #[.string s, .int .u8 (m : Nat)] 79) := by
    have h := (Below.heap_alloc (w.alloc ob) om w.heap.size (by rw [hs1]; omega)).trans (heap_alloc_new w ob)
    exact h.trans (congrArg some hob)
  obtain ⟨w1, hw1⟩ : ∃ w1, w1 = (w.alloc ob).alloc om := ⟨_, rfl⟩
  rw [← hw1] at hb1 hs2 ho hbx
  have HIX := Lib.hid hix
  have HDB := Lib.hid hDb
  have HF := Lib.hid hf
  have HFLE := Lib.hid hfle
  have H256 := Lib.hid h256
  have HOB := Lib.hid hob
  have HOM := Lib.hid hom
  have HB1 := Lib.hid hb1
  have HO := Lib.hid ho
  have HBX := Lib.hid hbx
  have HW1 := Lib.hid hw1
  have HS2 := Lib.hid hs2
  have HSL := Lib.hid hsl
  have HNN := Lib.hid hN
  have hmk := fun (w : World) => make_row elBytes rfl N q3 (N : Int) rfl w
  clear hix hDb hf hfle h256 hb1 hbx hs1 hs2 hsl hd hD hb hDN ho hob hom hw1
  go_enter Tryd.func113, Tryd.ntmps113
  go_upto_region 2 with fail
  rw [← HOB.out, ← HOM.out, ← HW1.out]
  have hN0 : 0 < N := by omega
  have hd0 : 0 < d.size := by rw [hN]; exact hN0
  have hx0 := HIX.out 0 hd0
  obtain ⟨e0, he0⟩ : ∃ e0, D.getD 0 0 = e0 := ⟨_, rfl⟩
  have hel := HDB.out 0
  rw [he0] at hx0 hel
  have hf0 : f 0 = min (e0 + 1) (m + 1) := by rw [← HF.out, fz, he0]
  have c1 : w1.drew.cell? ⟨w.heap.size, 1, none⟩ = some (.int .u8 (m : Nat)) := blk_cell HBX.out 1
  have hget := HO.out.drew.get (setN_get (s := rowI f N 0) (i := 0) (by rw [rowI_length]; exact hN0) (H256.out _ _))
  have hfz := HO.out.drew.frozen 0
  have hcast : ((f 0 : Nat) : Int) = min (e0 : Int) (m : Int) + 1 := by omega
  have hset := HO.out.set 0 (.int .u8 ((f 0 : Nat) : Int))
  rw [setN_set _ _ _ (by have := HFLE.out 0; omega), show (rowI f N 0).set 0 (f 0) = rowI f N 1 from rowI_set f N 0 hN0] at hset
  have heff := (Eff.refl (· = w.heap.size + 1) w1).setCell (p := ⟨w.heap.size + 1, 0, none⟩) (fun _ => rfl) (.int .u8 ((f 0 : Nat) : Int))
  rw [hcast] at hset heff
  have HSET := Lib.hid hset.drew
  have HEFF := Lib.hid heff.drew
  clear he0 hN hf0 hset heff hcast HO
  go_region
  generalize (w1.setCell ⟨w.heap.size + 1, 0, none⟩ (.int .u8 (min (e0 : Int) (m : Int) + 1))).drew = w2 at HSET HEFF ⊢
  clear c1 hget hfz hx0 hel
  have hbx2 : w2.heap[w.heap.size]? = some (.cells #[.string s, .int .u8 (m : Nat)] 79) := (HEFF.out.block _ (by rw [HS2.out]; omega) (fun h => by have h : w.heap.size = w.heap.size + 1 := h; omega)).trans HBX.out
  have c0 : w2.cell? ⟨w.heap.size, 0, none⟩ = some (.string s) := blk_cell hbx2 0
  have c1 : w2.cell? ⟨w.heap.size, 1, none⟩ = some (.int .u8 (m : Nat)) := blk_cell hbx2 1
  obtain ⟨r0, hr0⟩ : ∃ r0, f 0 = r0 := ⟨_, rfl⟩
  have hget := HSET.out.get (setN_get (s := rowI f N 1) (i := 0) (by rw [rowI_length]; exact hN0) (H256.out _ _))
  rw [rowI_get f N 1 0 hN0, if_pos (by omega), hr0] at hget
  have HR0 := Lib.hid hr0
  have hal : anyLe f m 1 = decide (r0 ≤ m) := by rw [← hr0]; simp [anyLe]
  have HAL := Lib.hid hal
  clear hr0 hal hbx2
  go_wp2
  go_quiet (fail)
  go_wp2
  have HSET3 := Lib.hid (HSET.out.drewN nq)
  have HEFF3 := Lib.hid (HEFF.out.drewN nq)
  clear hget c0 c1 HSET HEFF
  generalize w2.drewN nq = w3 at HSET3 HEFF3 ⊢
  go_loopw [8, 32] (fun s8 s32 wr => ∃ i : Nat, s32 = .int .i64 i ∧ i ≤ s.size ∧ s8 = .bool (anyLe f m (i + 1)) ∧ Own wr (w.heap.size + 1) 5 (.slice (some ⟨w.heap.size + 1, 0, none⟩) N N) (setN (rowI f N (i + 1))) ∧ Eff (· = w.heap.size + 1) w1 wr) (fun _ s32 _ => s.size - (intOf s32).toNat)
  case atStart => exact ⟨0, rfl, Nat.zero_le _, by rw [HAL.out], HSET3.out, HEFF3.out⟩
  case round =>
    clear HSET3 HEFF3
    obtain ⟨i, rfl, hi, rfl, hown, heff⟩ := hrel
    have hbxr : wr.heap[w.heap.size]? = some (.cells #[.string s, .int .u8 (m : Nat)] 79) := (heff.block _ (by rw [HS2.out]; omega) (fun h => by have h : w.heap.size = w.heap.size + 1 := h; omega)).trans HBX.out
    by_cases hlt : i < s.size
    · have hi0 : i < d.size := by rw [HNN.out]; omega
      have hi1 : i + 1 < d.size := by rw [HNN.out]; omega
      have hx0 := HIX.out i hi0
      have hx1 := HIX.out (i + 1) hi1
      have hl0 := HDB.out i
      have hl1 := HDB.out (i + 1)
      have hl2 := HFLE.out i
      obtain ⟨e0, he0⟩ : ∃ e0, D.getD i 0 = e0 := ⟨_, rfl⟩
      obtain ⟨e1, he1⟩ : ∃ e1, D.getD (i + 1) 0 = e1 := ⟨_, rfl⟩
      obtain ⟨r, hr⟩ : ∃ r, f i = r := ⟨_, rfl⟩
      have hil : i < s.data.toList.length := by rw [← HSL.out]; exact hlt
      have hfs : f (i + 1) = min (min (e0 + if s.data.toList.getD i 0 = b then 0 else 1) (e1 + 1)) (min (r + 1) (m + 1)) := by rw [← HF.out, fz, HF.out, he0, he1, hr]
      have hgd : s.data.toList.getD i 0 = s[i]'hlt := by rw [List.getD_eq_getElem?_getD, List.getElem?_eq_getElem hil]; rfl
      rw [hgd] at hfs
      rw [he0] at hx0 hl0
      rw [he1] at hx1 hl1
      rw [hr] at hl2
      have c0 : wr.cell? ⟨w.heap.size, 0, none⟩ = some (.string s) := blk_cell hbxr 0
      have hget := hown.get (setN_get (s := rowI f N (i + 1)) (i := i) (by rw [rowI_length]; omega) (H256.out _ _))
      rw [rowI_get f N (i + 1) i (by omega), if_pos (by omega), hr] at hget
      have HX0 := Lib.hid hx0
      have HFS := Lib.hid hfs
      have HR := Lib.hid hr
      have HOWN := Lib.hid hown
      have HEFF := Lib.hid heff
      have HBXR := Lib.hid hbxr
      clear he0 he1 hr hfs hgd hown heff hbxr
      obtain ⟨bb, hbb⟩ : ∃ bb : Int, (b.toNat : Int) = bb := ⟨_, rfl⟩
      have HBB := Lib.hid hbb
      rw [hbb]
      clear hbb
      by_cases hsb : ((s[i]'hlt).toNat : Int) = bb
      · have hcond : f (i + 1) = min (min e0 (e1 + 1)) (min (r + 1) (m + 1)) := by
          rw [HFS.out, if_pos (UInt8.toNat_inj.1 (by have := HBB.out; omega)), Nat.add_zero]
        go_upto_region 10 with fail
        have c1d : wr.drew.cell? ⟨w.heap.size, 1, none⟩ = some (.int .u8 (m : Nat)) := blk_cell HBXR.out 1
        have hgetd : wr.drew.cell? ⟨w.heap.size + 1, i, none⟩ = some (.int .u8 (r : Nat)) := hget
        have hget1 := HOWN.out.drew.get (setN_get (s := rowI f N (i + 1)) (i := i + 1) (by rw [rowI_length]; omega) (H256.out _ _))
        have hfz1 := HOWN.out.drew.frozen (i + 1)
        have hcast : ((f (i + 1) : Nat) : Int) = min (e0 : Int) (min (e1 : Int) (min (r : Int) (m : Int)) + 1) := by omega
        have hset := HOWN.out.set (i + 1) (.int .u8 ((f (i + 1) : Nat) : Int))
        rw [setN_set _ _ _ (by have := HFLE.out (i + 1); omega), show (rowI f N (i + 1)).set (i + 1) (f (i + 1)) = rowI f N (i + 2) from rowI_set f N (i + 1) (by omega)] at hset
        have heff := HEFF.out.setCell (p := ⟨w.heap.size + 1, i + 1, none⟩) (fun _ => rfl) (.int .u8 ((f (i + 1) : Nat) : Int))
        rw [hcast] at hset heff
        have HSET := Lib.hid hset.drew
        have HEF2 := Lib.hid heff.drew
        clear hset heff hcast hcond
        go_region
        generalize (wr.setCell ⟨w.heap.size + 1, i + 1, none⟩ (.int .u8 (min (e0 : Int) (min (e1 : Int) (min (r : Int) (m : Int)) + 1)))).drew = w2 at HSET HEF2 ⊢
        clear c0 c1d hget hgetd hget1 hfz1
        have hbx2 : w2.heap[w.heap.size]? = some (.cells #[.string s, .int .u8 (m : Nat)] 79) := (HEF2.out.block _ (by rw [HS2.out]; omega) (fun h => by have h : w.heap.size = w.heap.size + 1 := h; omega)).trans HBX.out
        have c1 : w2.cell? ⟨w.heap.size, 1, none⟩ = some (.int .u8 (m : Nat)) := blk_cell hbx2 1
        obtain ⟨rn, hrn⟩ : ∃ rn, f (i + 1) = rn := ⟨_, rfl⟩
        have hgetn := HSET.out.get (setN_get (s := rowI f N (i + 2)) (i := i + 1) (by rw [rowI_length]; omega) (H256.out _ _))
        rw [rowI_get f N (i + 2) (i + 1) (by omega), if_pos (by omega), hrn] at hgetn
        obtain ⟨al, hal⟩ : ∃ al, anyLe f m (i + 1) = al := ⟨_, rfl⟩
        have hal2 : anyLe f m (i + 2) = (al || decide (rn ≤ m)) := by rw [anyLe_succ, hal, hrn]
        have HAL2 := Lib.hid hal2
        rw [hal]
        clear hrn hal hal2 hbx2
        cases al with
        | true =>
          go_wp2
          go_quiet (fail)
          go_wp2
          go_roundw
          case rel => exact ⟨i + 1, by go_num, by omega, by rw [HAL2.out]; rfl, HSET.out.drewN _, HEF2.out.drewN _⟩
          case measure => simp [intOf]; omega
        | false =>
          by_cases hrm : rn ≤ m
          · have hd1 : decide (rn ≤ m) = true := decide_eq_true hrm
            have HD1 := Lib.hid hd1
            go_wp2
            go_quiet (fail)
            go_wp2
            go_roundw
            case rel => exact ⟨i + 1, by go_num, by omega, by rw [HAL2.out, HD1.out]; rfl, HSET.out.drewN _, HEF2.out.drewN _⟩
            case measure => simp [intOf]; omega
          · have hd1 : decide (rn ≤ m) = false := decide_eq_false hrm
            have HD1 := Lib.hid hd1
            go_wp2
            go_quiet (fail)
            go_wp2
            go_roundw
            case rel => exact ⟨i + 1, by go_num, by omega, by rw [HAL2.out, HD1.out]; rfl, HSET.out.drewN _, HEF2.out.drewN _⟩
            case measure => simp [intOf]; omega
      · have hcond : f (i + 1) = min (min (e0 + 1) (e1 + 1)) (min (r + 1) (m + 1)) := by
          rw [HFS.out, if_neg (fun h => hsb (by rw [h]; exact HBB.out))]
        go_upto_region 10 with fail
        have c1d : wr.drew.cell? ⟨w.heap.size, 1, none⟩ = some (.int .u8 (m : Nat)) := blk_cell HBXR.out 1
        have hgetd : wr.drew.cell? ⟨w.heap.size + 1, i, none⟩ = some (.int .u8 (r : Nat)) := hget
        have hget1 := HOWN.out.drew.get (setN_get (s := rowI f N (i + 1)) (i := i + 1) (by rw [rowI_length]; omega) (H256.out _ _))
        have hfz1 := HOWN.out.drew.frozen (i + 1)
        have hcast : ((f (i + 1) : Nat) : Int) = min (e0 : Int) (min (e1 : Int) (min (r : Int) (m : Int))) + 1 := by omega
        have hset := HOWN.out.set (i + 1) (.int .u8 ((f (i + 1) : Nat) : Int))
        rw [setN_set _ _ _ (by have := HFLE.out (i + 1); omega), show (rowI f N (i + 1)).set (i + 1) (f (i + 1)) = rowI f N (i + 2) from rowI_set f N (i + 1) (by omega)] at hset
        have heff := HEFF.out.setCell (p := ⟨w.heap.size + 1, i + 1, none⟩) (fun _ => rfl) (.int .u8 ((f (i + 1) : Nat) : Int))
        rw [hcast] at hset heff
        have HSET := Lib.hid hset.drew
        have HEF2 := Lib.hid heff.drew
        clear hset heff hcast hcond
        go_region
        generalize (wr.setCell ⟨w.heap.size + 1, i + 1, none⟩ (.int .u8 (min (e0 : Int) (min (e1 : Int) (min (r : Int) (m : Int))) + 1))).drew = w2 at HSET HEF2 ⊢
        clear c0 c1d hget hgetd hget1 hfz1
        have hbx2 : w2.heap[w.heap.size]? = some (.cells #[.string s, .int .u8 (m : Nat)] 79) := (HEF2.out.block _ (by rw [HS2.out]; omega) (fun h => by have h : w.heap.size = w.heap.size + 1 := h; omega)).trans HBX.out
        have c1 : w2.cell? ⟨w.heap.size, 1, none⟩ = some (.int .u8 (m : Nat)) := blk_cell hbx2 1
        obtain ⟨rn, hrn⟩ : ∃ rn, f (i + 1) = rn := ⟨_, rfl⟩
        have hgetn := HSET.out.get (setN_get (s := rowI f N (i + 2)) (i := i + 1) (by rw [rowI_length]; omega) (H256.out _ _))
        rw [rowI_get f N (i + 2) (i + 1) (by omega), if_pos (by omega), hrn] at hgetn
        obtain ⟨al, hal⟩ : ∃ al, anyLe f m (i + 1) = al := ⟨_, rfl⟩
        have hal2 : anyLe f m (i + 2) = (al || decide (rn ≤ m)) := by rw [anyLe_succ, hal, hrn]
        have HAL2 := Lib.hid hal2
        rw [hal]
        clear hrn hal hal2 hbx2
        cases al with
        | true =>
          go_wp2
          go_quiet (fail)
          go_wp2
          go_roundw
          case rel => exact ⟨i + 1, by go_num, by omega, by rw [HAL2.out]; rfl, HSET.out.drewN _, HEF2.out.drewN _⟩
          case measure => simp [intOf]; omega
        | false =>
          by_cases hrm : rn ≤ m
          · have hd1 : decide (rn ≤ m) = true := decide_eq_true hrm
            have HD1 := Lib.hid hd1
            go_wp2
            go_quiet (fail)
            go_wp2
            go_roundw
            case rel => exact ⟨i + 1, by go_num, by omega, by rw [HAL2.out, HD1.out]; rfl, HSET.out.drewN _, HEF2.out.drewN _⟩
            case measure => simp [intOf]; omega
          · have hd1 : decide (rn ≤ m) = false := decide_eq_false hrm
            have HD1 := Lib.hid hd1
            go_wp2
            go_quiet (fail)
            go_wp2
            go_roundw
            case rel => exact ⟨i + 1, by go_num, by omega, by rw [HAL2.out, HD1.out]; rfl, HSET.out.drewN _, HEF2.out.drewN _⟩
            case measure => simp [intOf]; omega
    · obtain rfl : i = s.size := by omega
      have hNs : rowI f N (s.size + 1) = stepF s.data.toList m D b := by
        rw [show s.size + 1 = N by omega, rowI_all]
        unfold stepF; rw [HF.out, ← HSL.out, show s.size + 1 = N by omega]
      have hany : anyLe f m (s.size + 1) = (stepF s.data.toList m D b).any (fun x => decide (x ≤ m)) := by
        unfold anyLe stepF; rw [HF.out, ← HSL.out, List.any_map]; rfl
      rw [hNs] at hown
      have r4 := run_str (P := Tryd.prog) Tryd.underlying26 Tryd.underlying5 Tryd.underlying9 hown.rd
      have HB2 := Lib.hid (HB1.out.trans (heff.below (B := w.heap.size) (fun k hk => by subst hk; omega) (by rw [HS2.out]; omega)))
      obtain ⟨al, hal⟩ : ∃ al, anyLe f m (s.size + 1) = al := ⟨_, rfl⟩
      rw [hal]
      have HANY := Lib.hid (hany.symm.trans hal)
      clear hown heff hbxr hNs hany hal
      cases al with
      | true =>
        go_wp2
        go_ret
        exact ⟨by rw [show stepFS s.data.toList m D b = strN (stepF s.data.toList m D b) by unfold stepFS; rw [if_pos HANY.out]]; rfl, HB2.out⟩
      | false =>
        go_wp2
        go_ret
        exact ⟨by rw [show stepFS s.data.toList m D b = ⟨#[]⟩ by unfold stepFS; rw [if_neg (by rw [HANY.out]; simp)]]; rfl, HB2.out⟩
end Go.Proofs.YtejmjjgbbojfbaaDoor
