/- dict: an entry read. -/
import Derived.Test.YtejmjjgbbojfbaaDoorZG7
import Derived.Test.YtejmjjgbbojfbaaDoorZG3
import Derived.Test.YtejmjjgbbojfbaaDoorZG7
import Derived.Handy
namespace Go.Proofs.YtejmjjgbbojfbaaDoor
set_option linter.unusedVariables false
open Go.ChangeShapes Go.WideShapes Go.ChangeAt Go.RowKit

/-- The numbers of an entry, xs of them read. -/
def tailP (K : List UInt8) : Nat → List Nat → List UInt8 → Option (EntV × List UInt8)
  | 0, xs, L => some (⟨strOf K, (xs.getD 0 0 : Nat), (xs.getD 1 0 : Nat), (xs.getD 2 0 : Nat), (xs.getD 3 0 : Nat)⟩, L)
  | m + 1, xs, L => (numP 2147483647 L).bind fun y => tailP K m (xs ++ [y.1]) y.2
theorem entP_tail (last : List UInt8) (first : Bool) (L : List UInt8) : entP last first L =
    (numP last.length L).bind fun y0 => (textP (65 - (y0.1 : Int)) y0.2).bind fun y1 =>
      if 0 < (last.take y0.1 ++ y1.1).length ∧ (first = true ∨ shr last (last.take y0.1 ++ y1.1) = y0.1) then tailP (last.take y0.1 ++ y1.1) 4 [] y1.2 else none := rfl
def entArr (key : ByteArray) (xs : List Nat) : Array Value := #[.string key, .int .i64 (xs.getD 0 0 : Nat), .int .i64 (xs.getD 1 0 : Nat), .int .i64 (xs.getD 2 0 : Nat), .int .i64 (xs.getD 3 0 : Nat)]
theorem entArr_set (key : ByteArray) (u : Nat) : ∀ xs : List Nat, xs.length < 4 → (entArr key xs).setIfInBounds (xs.length + 1) (.int .i64 u) = entArr key (xs ++ [u])
  | [], _ => rfl
  | [a], _ => rfl
  | [a, b], _ => rfl
  | [a, b, c], _ => rfl
  | a :: b :: c :: d :: r, h => by simp at h; omega
theorem entArr_at (key : ByteArray) : ∀ xs : List Nat, xs.length < 4 → (entArr key xs)[xs.length + 1]? = some (.int .i64 0)
  | [], _ => rfl
  | [a], _ => rfl
  | [a, b], _ => rfl
  | [a, b, c], _ => rfl
  | a :: b :: c :: d :: r, h => by simp at h; omega
def ptrArr (B : Nat) : Array Value := #[.pointer (some ⟨B, 1, none⟩), .pointer (some ⟨B, 2, none⟩), .pointer (some ⟨B, 3, none⟩), .pointer (some ⟨B, 4, none⟩)]
theorem ptrArr_at (B : Nat) : ∀ i, i < 4 → (ptrArr B)[i]? = some (.pointer (some ⟨B, i + 1, none⟩))
  | 0, _ => rfl
  | 1, _ => rfl
  | 2, _ => rfl
  | 3, _ => rfl
  | i + 4, h => by omega

theorem textP_ok {most : Int} {L x : List UInt8} {k : Nat} (h : getText most L = .ok (x, k)) : textP most L = some (x, L.drop k) := by unfold textP; rw [h]
theorem textP_no {most : Int} {L : List UInt8} {n : Nat} (h : getText most L = .error n) : textP most L = none := by unfold textP; rw [h]
theorem key_eq (s : ByteArray) (u : Nat) (x : List UInt8) (h : u ≤ s.size) : s.extract 0 u ++ strOf x = strOf (s.data.toList.take u ++ x) := by
  have e : s.extract 0 u = strOf (s.data.toList.take u) := by
    unfold strOf
    cases hx : s.extract 0 u with | mk d =>
      have h1 : (s.extract 0 u).data = s.data.extract 0 u := ByteArray.data_extract
      rw [hx] at h1
      simp only at h1
      rw [h1]
      congr 1
      apply Array.toList_inj.1
      simp
  rw [e, strOf_append]
set_option maxRecDepth 100000 in
set_option maxHeartbeats 1000000 in
theorem entryOf_any (w : World) (base p : Nat) (v : Value) (bs : List UInt8) (k : Nat) (h : Rdr w base p v bs k) (EA : Nat → Addr) (hE : DErr w EA) (hG : DLow base) (hbase : base ≤ w.heap.size) (s : ByteArray) (hs : s.size ≤ 65) (first : Bool) :
    Calls Tryd.prog 86 #[.pointer (some ⟨p, 0, none⟩), .string s, .bool first] w (POut w base p v bs EA (fun e : EntV => .agg e.cells.toArray) (entP s.data.toList first (bs.drop k))) := by
  have hsl : s.data.toList.length = s.size := Array.length_toList (xs := s.data)
  have hp := h.hp
  have hplt := lt_of_heap h.blk
  have hres0 := entP_tail s.data.toList first (bs.drop k)
  rw [hsl] at hres0
  obtain ⟨RES, hRES⟩ : ∃ RES, entP s.data.toList first (bs.drop k) = RES := ⟨_, rfl⟩
  rw [hRES] at hres0 ⊢
  have HRES := Lib.hid hres0
  clear hRES hres0
  obtain ⟨o0, ho0⟩ : ∃ o0, o0 = Obj.cells #[.string ⟨#[]⟩, .int .i64 0, .int .i64 0, .int .i64 0, .int .i64 0] 116 := ⟨_, rfl⟩
  have he0 : Eff (fun k => k = p) w (w.alloc o0) := (Eff.refl _ _).alloc _
  have hr0 : Rdr (w.alloc o0) base p v bs k := h.eff (F := fun _ => False) ((Eff.refl _ _).alloc _) (fun _ _ f => f)
  have DW := hE
  have hE0 := hE.eff he0 hG (fun k hk => by subst hk; exact hp)
  have C1 := dnumber_any (w.alloc o0) base p v bs k hr0 EA hE0 hG s.size (by omega) (by omega)
  rw [ho0] at C1
  have hb0 : (w.alloc o0).heap[w.heap.size]? = some (.cells #[.string ⟨#[]⟩, .int .i64 0, .int .i64 0, .int .i64 0, .int .i64 0] 116 (0, 0)) := by rw [ho0]; exact heap_alloc_new w _
  have hz0 : (w.alloc o0).heap.size = w.heap.size + 1 := by simp
  have HG := Lib.hid hG
  have HE0 := Lib.hid he0
  have HDE0 := Lib.hid hE0
  have HB0 := Lib.hid hb0
  have HO := Lib.hid ho0
  have HSL := Lib.hid hsl
  have HZ0 := Lib.hid hz0
  clear hG he0 hE0 hE hb0 ho0 hsl hr0 h hz0
  go_enter Tryd.func86, Tryd.ntmps86
  go_wp2_with fail
  refine C1.mono ?_
  rintro e w1 ⟨hyes, hno⟩
  rw [← HO.out] at hyes hno
  clear C1
  cases hres : numP (s.size : Int) (bs.drop k) with
  | none =>
    obtain ⟨rfl, he1⟩ := hno hres
    have hn : RES = none := by rw [HRES.out, hres]; rfl
    have HN := Lib.hid hn
    have HE1 := Lib.hid (HE0.out.trans he1 (fun i hi _ => hi))
    clear hyes hno hres hn he1
    unfold gaveUp
    go_wp2
    exact ⟨rfl, POut.no HN.out rfl HE1.out⟩
  | some y =>
    obtain ⟨u, R⟩ := y
    obtain ⟨k1, rfl, rfl, hr1, he1⟩ := hyes u R hres
    have hus : (u : Int) ≤ (s.size : Int) := (numP_form hres).2.2
    have hw1 := he1.block w.heap.size (by rw [HZ0.out]; omega) (by intro e; omega)
    rw [HB0.out] at hw1
    have hz1 : w.heap.size + 1 ≤ w1.heap.size := by have := he1.size; rw [HZ0.out] at this; exact this
    have hE1 := HDE0.out.eff he1 HG.out (fun k hk => by subst hk; exact hp)
    have hE01 := HE0.out.trans he1 (fun i hi _ => hi)
    have C2 := rtext_any w1 base p v bs k1 hr1 EA hE1.r HG.out.1 (65 - (u : Int)) (by omega) (by omega)
    have HRS := Lib.hid (show RES = _ from HRES.out.trans (by rw [hres, Option.bind_some]))
    have HW1 := Lib.hid hw1
    have HDE1 := Lib.hid hE1
    have HE01 := Lib.hid hE01
    clear hyes hno hres he1 hw1 hr1 hE1 hE01
    go_wp2_with fail
    refine C2.mono ?_
    rintro e w2 ⟨hno, hyes⟩
    clear C2
    cases hres : getText (65 - (u : Int)) (bs.drop k1) with
    | error n =>
      obtain ⟨rfl, hr2, he2⟩ := hno n hres
      have hn : RES = none := by rw [HRS.out, textP_no hres]; rfl
      have HN := Lib.hid hn
      have hE2 := HDE1.out.eff he2 HG.out (fun k hk => by subst hk; exact hp)
      have HE2 := Lib.hid (HE01.out.trans he2 (fun i hi _ => hi))
      have C3 := sure_no w2 EA hE2.c
      clear hyes hno hres hn he2 hr2 hE2
      unfold errV
      go_wp2_with fail
      refine C3.mono ?_
      rintro e w3 ⟨rfl, rfl⟩
      unfold gaveUp
      go_wp2
      exact ⟨rfl, POut.no HN.out rfl HE2.out⟩
    | ok y =>
      obtain ⟨x, j⟩ := y
      obtain ⟨rfl, hr2, he2⟩ := hyes x j hres
      have hxl : (x.length : Int) ≤ 65 - (u : Int) := (textP_form (textP_ok hres)).2
      have hw2 := he2.block w.heap.size (by omega) (by intro e; omega)
      rw [HW1.out] at hw2
      have hz2 := he2.size
      have hE2 := HDE1.out.eff he2 HG.out (fun k hk => by subst hk; exact hp)
      have hE02 := HE01.out.trans he2 (fun i hi _ => hi)
      have hk2 := key_eq s u x (by omega)
      have hsz2 : (strOf x).size = x.length := strOf_size x
      have hrs : RES = _ := HRS.out.trans (by rw [textP_ok hres, Option.bind_some, List.drop_drop])
      obtain ⟨K, hK⟩ : ∃ K, s.data.toList.take u ++ x = K := ⟨_, rfl⟩
      rw [hK] at hk2
      simp only [hK] at hrs
      have hKl : K.length ≤ 65 := by rw [← hK, List.length_append, List.length_take]; omega
      have HRS2 := Lib.hid hrs
      have HW2 := Lib.hid hw2
      have HDE2 := Lib.hid hE2
      have HE02 := Lib.hid hE02
      have HR2 := Lib.hid hr2
      have HK2 := Lib.hid hk2
      clear hyes hno hres he2 hw2 hr2 hE2 hE02 hk2 hrs
      have C3 := sure_ok w2
      go_wp2_with fail
      refine C3.mono ?_
      rintro e w3 ⟨rfl, rfl⟩
      clear C3
      have HDW := Lib.hid DW
      clear DW
      go_upto_region 5 with fail
      rw [HK2.out]
      have hcs : (strOf K).size = K.length := strOf_size K
      have hK2 : (strOf K).data.toList = K := by unfold strOf; exact List.toList_toArray
      by_cases h0 : 0 < K.length
      · have t0 : decide (0 < (strOf K).size) = true := decide_eq_true (by rw [hcs]; exact h0)
        cases first with
        | true =>
          have hcond : 0 < K.length ∧ (true = true ∨ shr s.data.toList K = u) := ⟨h0, .inl rfl⟩
          clear hcs hK2
          obtain ⟨W4, hW4⟩ : ∃ W4, W4 = w2.alloc (.cells #[.string (strOf K), .int .i64 0, .int .i64 0, .int .i64 0, .int .i64 0] 116) := ⟨_, rfl⟩
          rw [← hW4]
          have hcW : W4.cell? ⟨w2.heap.size, 0, none⟩ = some (.string (strOf K)) := by rw [hW4]; exact blk_cell (heap_alloc_new w2 _) 0
          have hz4 : W4.heap.size = w2.heap.size + 1 := by rw [hW4]; simp
          have hx4 : W4.heap[w2.heap.size]? = some (.cells (entArr (strOf K) []) 116 (0, 0)) := by rw [hW4]; exact heap_alloc_new w2 _
          have hr4 : Rdr W4 base p v bs (k1 + j) := by rw [hW4]; exact HR2.out.eff (F := fun _ => False) ((Eff.refl _ _).alloc _) (fun _ _ f => f)
          have hd4 : DErr W4 EA := by rw [hW4]; exact HDE2.out.eff (F := fun _ => False) ((Eff.refl _ _).alloc _) HG.out (fun _ f => f.elim)
          have he4 : Eff (fun k => k = p) w W4 := by rw [hW4]; exact (HE02.out.alloc _)
          have hy4 : W4.heap[w.heap.size]? = some (.cells #[.string ⟨#[]⟩, .int .i64 0, .int .i64 0, .int .i64 0, .int .i64 0] 116 (0, 0)) := by
            rw [hW4]; exact (Below.heap_alloc w2 _ w.heap.size (by omega)).trans HW2.out
          have hrs4 : RES = tailP K 4 [] (bs.drop (k1 + j)) := by rw [HRS2.out, if_pos hcond]
          have C5 := sure_ok W4
          have HZ4 := Lib.hid hz4
          have HX4 := Lib.hid hx4
          have HR4 := Lib.hid hr4
          have HD4 := Lib.hid hd4
          have HE4 := Lib.hid he4
          have HY4 := Lib.hid hy4
          have HRS4 := Lib.hid hrs4
          clear hz4 hx4 hr4 hd4 he4 hy4 hrs4 hW4 hcond h0
          go_wp2_with fail
          refine C5.mono ?_
          rintro e w5 ⟨rfl, rfl⟩
          clear C5
          obtain ⟨B, hB⟩ : ∃ B, w2.heap.size = B := ⟨_, rfl⟩
          have hz5 := HZ4.out
          rw [hB] at hz5
          have hx5 := HX4.out
          rw [hB] at hx5
          rw [hB]
          have hB1 : w.heap.size + 1 ≤ B := by omega
          have HZ5 := Lib.hid hz5
          have HX5 := Lib.hid hx5
          clear hz5 hx5 hB HZ4 HX4 HW2 HR2 HDE2 HE02 HRS2 HK2 hz2
          go_upto_region 7 with fail
          go_loopw [55] (fun s55 wr => ∃ (xs : List Nat) (k' : Nat), s55 = .int .i64 (xs.length : Nat) ∧ xs.length ≤ 4 ∧ Rdr wr base p v bs k' ∧ Eff (fun k => k = p) w wr ∧ wr.heap[B]? = some (.cells (entArr (strOf K) xs) 116 (0, 0)) ∧ wr.heap[W4.heap.size]? = some (.cells (ptrArr B) 186 (0, 0)) ∧ wr.heap[w.heap.size]? = some (.cells #[.string ⟨#[]⟩, .int .i64 0, .int .i64 0, .int .i64 0, .int .i64 0] 116 (0, 0)) ∧ RES = tailP K (4 - xs.length) xs (bs.drop k')) (fun s55 _ => 4 - (intOf s55).toNat)
          case atStart =>
            refine ⟨[], k1 + j, rfl, Nat.zero_le _, HR4.out.eff (F := fun _ => False) ((Eff.refl _ _).alloc _) (fun _ _ f => f), HE4.out.alloc _, ?_, ?_, ?_, HRS4.out⟩
            · exact (Below.heap_alloc W4 _ B (by have := HZ5.out; omega)).trans HX5.out
            · exact heap_alloc_new W4 _
            · exact (Below.heap_alloc W4 _ w.heap.size (by have := HZ5.out; omega)).trans HY4.out
          case round =>
            clear HR4 HE4 HX5 HY4 HRS4
            obtain ⟨xs, k', rfl, hxl4, hr, he, hbB, hbP, hb0, hrs⟩ := hrel
            have hd : DErr wr EA := HDW.out.eff he HG.out (fun k hk => by subst hk; exact hp)
            have hwz := HZ5.out
            by_cases hlt : xs.length < 4
            · have hc := (blk_cell hbP xs.length).trans (ptrArr_at B xs.length hlt)
              have C6 := dnumber_any wr base p v bs k' hr EA hd HG.out 2147483647 (by omega) (by omega)
              have hpl : 0 < 4 - xs.length := by omega
              have hrs' : RES = (numP 2147483647 (bs.drop k')).bind fun y => tailP K (4 - (xs.length + 1)) (xs ++ [y.1]) y.2 := by
                rw [hrs, show 4 - xs.length = (4 - (xs.length + 1)) + 1 by omega]; rfl
              have HRS6 := Lib.hid hrs'
              have HE6 := Lib.hid he
              have HBB := Lib.hid hbB
              have HBP := Lib.hid hbP
              have HB06 := Lib.hid hb0
              have HWZ := Lib.hid hwz
              clear hrs hrs' hr he hbB hbP hb0 hd hwz
              go_wp2_with fail
              refine C6.mono ?_
              rintro e w6 ⟨hyes, hno⟩
              clear C6
              cases hres : numP 2147483647 (bs.drop k') with
              | none =>
                obtain ⟨rfl, he6⟩ := hno hres
                have HN := Lib.hid (show RES = none by rw [HRS6.out, hres]; rfl)
                have HE7 := Lib.hid (HE6.out.trans he6 (fun i hi _ => hi))
                clear hyes hno hres he6 hc
                unfold gaveUp
                go_wp2
                exact ⟨rfl, POut.no HN.out rfl HE7.out⟩
              | some y =>
                obtain ⟨u', R'⟩ := y
                obtain ⟨k6, rfl, rfl, hr6, he6⟩ := hyes u' R' hres
                have hne : B ≠ p := by omega
                have hbB6 : w6.heap[B]? = some (.cells (entArr (strOf K) xs) 116 (0, 0)) := (he6.block B (lt_of_heap HBB.out) (by omega)).trans HBB.out
                have hbP6 : w6.heap[W4.heap.size]? = some (.cells (ptrArr B) 186 (0, 0)) := (he6.block W4.heap.size (lt_of_heap HBP.out) (by have := HWZ.out; omega)).trans HBP.out
                have hb06 := (he6.block w.heap.size (lt_of_heap HB06.out) (by omega)).trans HB06.out
                have hc6 : w6.cell? ⟨B, xs.length + 1, none⟩ = some (.int .i64 0) := (blk_cell hbB6 (xs.length + 1)).trans (entArr_at _ xs hlt)
                have hf6 : w6.frozen? ⟨B, xs.length + 1, none⟩ = false := blk_frozen hbB6 _
                have HN := Lib.hid (show RES = tailP K (4 - (xs.length + 1)) (xs ++ [u']) (bs.drop k6) by rw [HRS6.out, hres]; rfl)
                have hr7 : Rdr (w6.setCell ⟨B, xs.length + 1, none⟩ (.int .i64 (u' : Nat))) base p v bs k6 := hr6.eff (F := fun k => k = B) ((Eff.refl (fun k => k = B) w6).setCell (p := ⟨B, xs.length + 1, none⟩) (fun _ => rfl) _) (fun k hk hF => by
                  subst hF
                  rcases hk with hk | hk
                  · exact hne hk
                  · exact hr6.own.ne_type hbB6 (by decide) hk)
                have he7 := (HE6.out.trans he6 (fun i hi _ => hi)).setCell (p := ⟨B, xs.length + 1, none⟩) (fun h => by simp only at h; omega) (.int .i64 (u' : Nat))
                have hbB7 : (w6.setCell ⟨B, xs.length + 1, none⟩ (.int .i64 (u' : Nat))).heap[B]? = some (.cells (entArr (strOf K) (xs ++ [u'])) 116 (0, 0)) := by rw [← entArr_set _ _ xs hlt]; exact blk_set hbB6 _ _
                have hbP7 : (w6.setCell ⟨B, xs.length + 1, none⟩ (.int .i64 (u' : Nat))).heap[W4.heap.size]? = some (.cells (ptrArr B) 186 (0, 0)) := (Below.heap_setCell w6 _ _ _ (by have := HWZ.out; simp only; omega)).trans hbP6
                have hb07 := (Below.heap_setCell w6 ⟨B, xs.length + 1, none⟩ (.int .i64 (u' : Nat)) w.heap.size (by simp only; omega)).trans hb06
                have HR7 := Lib.hid hr7
                have HE7 := Lib.hid he7
                have HBB7 := Lib.hid hbB7
                have HBP7 := Lib.hid hbP7
                have HB07 := Lib.hid hb07
                clear hyes hno hres he6 hc hr6 hbB6 hbP6 hb06 hr7 he7 hbB7 hbP7 hb07 HBB HBP HB06 HE6 HRS6
                go_wp2
                go_roundw
                case rel => exact ⟨xs ++ [u'], k6, by rw [List.length_append, List.length_singleton]; go_num, by rw [List.length_append, List.length_singleton]; omega, HR7.out, HE7.out, HBB7.out, HBP7.out, HB07.out, by rw [List.length_append, List.length_singleton]; exact HN.out⟩
                case measure => simp [intOf]; omega
            · have hl4 : xs.length = 4 := by omega
              have hrs' : RES = some (⟨strOf K, (xs.getD 0 0 : Nat), (xs.getD 1 0 : Nat), (xs.getD 2 0 : Nat), (xs.getD 3 0 : Nat)⟩, bs.drop k') := by rw [hrs, hl4]; rfl
              have d0 : wr.cell? ⟨B, 0, none⟩ = some (.string (strOf K)) := blk_cell hbB 0
              have d1 : wr.cell? ⟨B, 1, none⟩ = some (.int .i64 (xs.getD 0 0 : Nat)) := blk_cell hbB 1
              have d2 : wr.cell? ⟨B, 2, none⟩ = some (.int .i64 (xs.getD 1 0 : Nat)) := blk_cell hbB 2
              have d3 : wr.cell? ⟨B, 3, none⟩ = some (.int .i64 (xs.getD 2 0 : Nat)) := blk_cell hbB 3
              have d4 : wr.cell? ⟨B, 4, none⟩ = some (.int .i64 (xs.getD 3 0 : Nat)) := blk_cell hbB 4
              obtain ⟨x0, hx0⟩ : ∃ x, xs.getD 0 0 = x := ⟨_, rfl⟩
              obtain ⟨x1, hx1⟩ : ∃ x, xs.getD 1 0 = x := ⟨_, rfl⟩
              obtain ⟨x2, hx2⟩ : ∃ x, xs.getD 2 0 = x := ⟨_, rfl⟩
              obtain ⟨x3, hx3⟩ : ∃ x, xs.getD 3 0 = x := ⟨_, rfl⟩
              rw [hx0] at d1 hrs'
              rw [hx1] at d2 hrs'
              rw [hx2] at d3 hrs'
              rw [hx3] at d4 hrs'
              have f0 : wr.cell? ⟨w.heap.size, 0, none⟩ = some (.string ⟨#[]⟩) := blk_cell hb0 0
              have f1 : wr.cell? ⟨w.heap.size, 1, none⟩ = some (.int .i64 0) := blk_cell hb0 1
              have f2 : wr.cell? ⟨w.heap.size, 2, none⟩ = some (.int .i64 0) := blk_cell hb0 2
              have f3 : wr.cell? ⟨w.heap.size, 3, none⟩ = some (.int .i64 0) := blk_cell hb0 3
              have f4 : wr.cell? ⟨w.heap.size, 4, none⟩ = some (.int .i64 0) := blk_cell hb0 4
              have g0 : ∀ i, wr.frozen? ⟨w.heap.size, i, none⟩ = false := fun i => blk_frozen hb0 i
              have g00 := g0 0
              have g01 := g0 1
              have g02 := g0 2
              have g03 := g0 3
              have g04 := g0 4
              have HN := Lib.hid hrs'
              have HRR := Lib.hid hr
              have HEE := Lib.hid he
              have HB0 := Lib.hid hb0
              have h4 : decide ((xs.length : Int) < 4) = false := decide_eq_false (by omega)
              clear hrs' hr he hb0 hbB hbP hrs hl4 hx0 hx1 hx2 hx3 g0 hd hlt hwz
              go_wp2
              refine bodyPost_ret (v := .agg #[.string (strOf K), .int .i64 (x0 : Nat), .int .i64 (x1 : Nat), .int .i64 (x2 : Nat), .int .i64 (x3 : Nat)]) (by simp [results, Tryd.results86, go_sem, f0, f1, f2, f3, f4]) rfl ?_
              refine POut.ok HN.out rfl ?_ ?_
              · exact HRR.out.eff (F := fun k => k = w.heap.size) (((((Eff.refl (fun k => k = w.heap.size) wr).setCell (p := ⟨w.heap.size, 0, none⟩) (fun _ => rfl) _).setCell (p := ⟨w.heap.size, 1, none⟩) (fun _ => rfl) _).setCell (p := ⟨w.heap.size, 2, none⟩) (fun _ => rfl) _).setCell (p := ⟨w.heap.size, 3, none⟩) (fun _ => rfl) _ |>.setCell (p := ⟨w.heap.size, 4, none⟩) (fun _ => rfl) _) (fun k hk hF => by
                  subst hF
                  rcases hk with hk | hk
                  · omega
                  · exact HRR.out.own.ne_type HB0.out (by decide) hk)
              · exact ((((HEE.out.setCell (p := ⟨w.heap.size, 0, none⟩) (fun h => by simp at h) _).setCell (p := ⟨w.heap.size, 1, none⟩) (fun h => by simp at h) _).setCell (p := ⟨w.heap.size, 2, none⟩) (fun h => by simp at h) _).setCell (p := ⟨w.heap.size, 3, none⟩) (fun h => by simp at h) _).setCell (p := ⟨w.heap.size, 4, none⟩) (fun h => by simp at h) _
        | false =>
          have C4 := shared_any (w2.alloc (.cells #[.string (strOf K), .int .i64 0, .int .i64 0, .int .i64 0, .int .i64 0] 116)) s (strOf K) (by omega) (by omega)
          rw [hK2] at C4
          by_cases h1 : shr s.data.toList K = u
          · have hcond : 0 < K.length ∧ (false = true ∨ shr s.data.toList K = u) := ⟨h0, .inr h1⟩
            rw [h1] at C4
            clear hcs hK2 h1
            go_wp2_with fail
            refine C4.mono ?_
            rintro e w4 ⟨rfl, d, rfl⟩
            clear C4
            obtain ⟨W4, hW4⟩ : ∃ W4, W4 = (w2.alloc (.cells #[.string (strOf K), .int .i64 0, .int .i64 0, .int .i64 0, .int .i64 0] 116)).drewN d := ⟨_, rfl⟩
            rw [← hW4]
            have hz4 : W4.heap.size = w2.heap.size + 1 := by rw [hW4]; simp
            have hx4 : W4.heap[w2.heap.size]? = some (.cells (entArr (strOf K) []) 116 (0, 0)) := by rw [hW4]; exact heap_alloc_new w2 _
            have hr4 : Rdr W4 base p v bs (k1 + j) := by rw [hW4]; exact HR2.out.eff (F := fun _ => False) (((Eff.refl _ _).alloc _).drewN d) (fun _ _ f => f)
            have hd4 : DErr W4 EA := by rw [hW4]; exact HDE2.out.eff (F := fun _ => False) (((Eff.refl _ _).alloc _).drewN d) HG.out (fun _ f => f.elim)
            have he4 : Eff (fun k => k = p) w W4 := by rw [hW4]; exact (HE02.out.alloc _).drewN d
            have hy4 : W4.heap[w.heap.size]? = some (.cells #[.string ⟨#[]⟩, .int .i64 0, .int .i64 0, .int .i64 0, .int .i64 0] 116 (0, 0)) := by
              rw [hW4]; exact (Below.heap_alloc w2 _ w.heap.size (by omega)).trans HW2.out
            have hrs4 : RES = tailP K 4 [] (bs.drop (k1 + j)) := by rw [HRS2.out, if_pos hcond]
            have C5 := sure_ok W4
            have HZ4 := Lib.hid hz4
            have HX4 := Lib.hid hx4
            have HR4 := Lib.hid hr4
            have HD4 := Lib.hid hd4
            have HE4 := Lib.hid he4
            have HY4 := Lib.hid hy4
            have HRS4 := Lib.hid hrs4
            clear hz4 hx4 hr4 hd4 he4 hy4 hrs4 hW4 hcond h0
            go_wp2_with fail
            refine C5.mono ?_
            rintro e w5 ⟨rfl, rfl⟩
            clear C5
            obtain ⟨B, hB⟩ : ∃ B, w2.heap.size = B := ⟨_, rfl⟩
            have hz5 := HZ4.out
            rw [hB] at hz5
            have hx5 := HX4.out
            rw [hB] at hx5
            rw [hB]
            have hB1 : w.heap.size + 1 ≤ B := by omega
            have HZ5 := Lib.hid hz5
            have HX5 := Lib.hid hx5
            clear hz5 hx5 hB HZ4 HX4 HW2 HR2 HDE2 HE02 HRS2 HK2 hz2
            go_upto_region 7 with fail
            go_loopw [55] (fun s55 wr => ∃ (xs : List Nat) (k' : Nat), s55 = .int .i64 (xs.length : Nat) ∧ xs.length ≤ 4 ∧ Rdr wr base p v bs k' ∧ Eff (fun k => k = p) w wr ∧ wr.heap[B]? = some (.cells (entArr (strOf K) xs) 116 (0, 0)) ∧ wr.heap[W4.heap.size]? = some (.cells (ptrArr B) 186 (0, 0)) ∧ wr.heap[w.heap.size]? = some (.cells #[.string ⟨#[]⟩, .int .i64 0, .int .i64 0, .int .i64 0, .int .i64 0] 116 (0, 0)) ∧ RES = tailP K (4 - xs.length) xs (bs.drop k')) (fun s55 _ => 4 - (intOf s55).toNat)
            case atStart =>
              refine ⟨[], k1 + j, rfl, Nat.zero_le _, HR4.out.eff (F := fun _ => False) ((Eff.refl _ _).alloc _) (fun _ _ f => f), HE4.out.alloc _, ?_, ?_, ?_, HRS4.out⟩
              · exact (Below.heap_alloc W4 _ B (by have := HZ5.out; omega)).trans HX5.out
              · exact heap_alloc_new W4 _
              · exact (Below.heap_alloc W4 _ w.heap.size (by have := HZ5.out; omega)).trans HY4.out
            case round =>
              clear HR4 HE4 HX5 HY4 HRS4
              obtain ⟨xs, k', rfl, hxl4, hr, he, hbB, hbP, hb0, hrs⟩ := hrel
              have hd : DErr wr EA := HDW.out.eff he HG.out (fun k hk => by subst hk; exact hp)
              have hwz := HZ5.out
              by_cases hlt : xs.length < 4
              · have hc := (blk_cell hbP xs.length).trans (ptrArr_at B xs.length hlt)
                have C6 := dnumber_any wr base p v bs k' hr EA hd HG.out 2147483647 (by omega) (by omega)
                have hpl : 0 < 4 - xs.length := by omega
                have hrs' : RES = (numP 2147483647 (bs.drop k')).bind fun y => tailP K (4 - (xs.length + 1)) (xs ++ [y.1]) y.2 := by
                  rw [hrs, show 4 - xs.length = (4 - (xs.length + 1)) + 1 by omega]; rfl
                have HRS6 := Lib.hid hrs'
                have HE6 := Lib.hid he
                have HBB := Lib.hid hbB
                have HBP := Lib.hid hbP
                have HB06 := Lib.hid hb0
                have HWZ := Lib.hid hwz
                clear hrs hrs' hr he hbB hbP hb0 hd hwz
                go_wp2_with fail
                refine C6.mono ?_
                rintro e w6 ⟨hyes, hno⟩
                clear C6
                cases hres : numP 2147483647 (bs.drop k') with
                | none =>
                  obtain ⟨rfl, he6⟩ := hno hres
                  have HN := Lib.hid (show RES = none by rw [HRS6.out, hres]; rfl)
                  have HE7 := Lib.hid (HE6.out.trans he6 (fun i hi _ => hi))
                  clear hyes hno hres he6 hc
                  unfold gaveUp
                  go_wp2
                  exact ⟨rfl, POut.no HN.out rfl HE7.out⟩
                | some y =>
                  obtain ⟨u', R'⟩ := y
                  obtain ⟨k6, rfl, rfl, hr6, he6⟩ := hyes u' R' hres
                  have hne : B ≠ p := by omega
                  have hbB6 : w6.heap[B]? = some (.cells (entArr (strOf K) xs) 116 (0, 0)) := (he6.block B (lt_of_heap HBB.out) (by omega)).trans HBB.out
                  have hbP6 : w6.heap[W4.heap.size]? = some (.cells (ptrArr B) 186 (0, 0)) := (he6.block W4.heap.size (lt_of_heap HBP.out) (by have := HWZ.out; omega)).trans HBP.out
                  have hb06 := (he6.block w.heap.size (lt_of_heap HB06.out) (by omega)).trans HB06.out
                  have hc6 : w6.cell? ⟨B, xs.length + 1, none⟩ = some (.int .i64 0) := (blk_cell hbB6 (xs.length + 1)).trans (entArr_at _ xs hlt)
                  have hf6 : w6.frozen? ⟨B, xs.length + 1, none⟩ = false := blk_frozen hbB6 _
                  have HN := Lib.hid (show RES = tailP K (4 - (xs.length + 1)) (xs ++ [u']) (bs.drop k6) by rw [HRS6.out, hres]; rfl)
                  have hr7 : Rdr (w6.setCell ⟨B, xs.length + 1, none⟩ (.int .i64 (u' : Nat))) base p v bs k6 := hr6.eff (F := fun k => k = B) ((Eff.refl (fun k => k = B) w6).setCell (p := ⟨B, xs.length + 1, none⟩) (fun _ => rfl) _) (fun k hk hF => by
                    subst hF
                    rcases hk with hk | hk
                    · exact hne hk
                    · exact hr6.own.ne_type hbB6 (by decide) hk)
                  have he7 := (HE6.out.trans he6 (fun i hi _ => hi)).setCell (p := ⟨B, xs.length + 1, none⟩) (fun h => by simp only at h; omega) (.int .i64 (u' : Nat))
                  have hbB7 : (w6.setCell ⟨B, xs.length + 1, none⟩ (.int .i64 (u' : Nat))).heap[B]? = some (.cells (entArr (strOf K) (xs ++ [u'])) 116 (0, 0)) := by rw [← entArr_set _ _ xs hlt]; exact blk_set hbB6 _ _
                  have hbP7 : (w6.setCell ⟨B, xs.length + 1, none⟩ (.int .i64 (u' : Nat))).heap[W4.heap.size]? = some (.cells (ptrArr B) 186 (0, 0)) := (Below.heap_setCell w6 _ _ _ (by have := HWZ.out; simp only; omega)).trans hbP6
                  have hb07 := (Below.heap_setCell w6 ⟨B, xs.length + 1, none⟩ (.int .i64 (u' : Nat)) w.heap.size (by simp only; omega)).trans hb06
                  have HR7 := Lib.hid hr7
                  have HE7 := Lib.hid he7
                  have HBB7 := Lib.hid hbB7
                  have HBP7 := Lib.hid hbP7
                  have HB07 := Lib.hid hb07
                  clear hyes hno hres he6 hc hr6 hbB6 hbP6 hb06 hr7 he7 hbB7 hbP7 hb07 HBB HBP HB06 HE6 HRS6
                  go_wp2
                  go_roundw
                  case rel => exact ⟨xs ++ [u'], k6, by rw [List.length_append, List.length_singleton]; go_num, by rw [List.length_append, List.length_singleton]; omega, HR7.out, HE7.out, HBB7.out, HBP7.out, HB07.out, by rw [List.length_append, List.length_singleton]; exact HN.out⟩
                  case measure => simp [intOf]; omega
              · have hl4 : xs.length = 4 := by omega
                have hrs' : RES = some (⟨strOf K, (xs.getD 0 0 : Nat), (xs.getD 1 0 : Nat), (xs.getD 2 0 : Nat), (xs.getD 3 0 : Nat)⟩, bs.drop k') := by rw [hrs, hl4]; rfl
                have d0 : wr.cell? ⟨B, 0, none⟩ = some (.string (strOf K)) := blk_cell hbB 0
                have d1 : wr.cell? ⟨B, 1, none⟩ = some (.int .i64 (xs.getD 0 0 : Nat)) := blk_cell hbB 1
                have d2 : wr.cell? ⟨B, 2, none⟩ = some (.int .i64 (xs.getD 1 0 : Nat)) := blk_cell hbB 2
                have d3 : wr.cell? ⟨B, 3, none⟩ = some (.int .i64 (xs.getD 2 0 : Nat)) := blk_cell hbB 3
                have d4 : wr.cell? ⟨B, 4, none⟩ = some (.int .i64 (xs.getD 3 0 : Nat)) := blk_cell hbB 4
                obtain ⟨x0, hx0⟩ : ∃ x, xs.getD 0 0 = x := ⟨_, rfl⟩
                obtain ⟨x1, hx1⟩ : ∃ x, xs.getD 1 0 = x := ⟨_, rfl⟩
                obtain ⟨x2, hx2⟩ : ∃ x, xs.getD 2 0 = x := ⟨_, rfl⟩
                obtain ⟨x3, hx3⟩ : ∃ x, xs.getD 3 0 = x := ⟨_, rfl⟩
                rw [hx0] at d1 hrs'
                rw [hx1] at d2 hrs'
                rw [hx2] at d3 hrs'
                rw [hx3] at d4 hrs'
                have f0 : wr.cell? ⟨w.heap.size, 0, none⟩ = some (.string ⟨#[]⟩) := blk_cell hb0 0
                have f1 : wr.cell? ⟨w.heap.size, 1, none⟩ = some (.int .i64 0) := blk_cell hb0 1
                have f2 : wr.cell? ⟨w.heap.size, 2, none⟩ = some (.int .i64 0) := blk_cell hb0 2
                have f3 : wr.cell? ⟨w.heap.size, 3, none⟩ = some (.int .i64 0) := blk_cell hb0 3
                have f4 : wr.cell? ⟨w.heap.size, 4, none⟩ = some (.int .i64 0) := blk_cell hb0 4
                have g0 : ∀ i, wr.frozen? ⟨w.heap.size, i, none⟩ = false := fun i => blk_frozen hb0 i
                have g00 := g0 0
                have g01 := g0 1
                have g02 := g0 2
                have g03 := g0 3
                have g04 := g0 4
                have HN := Lib.hid hrs'
                have HRR := Lib.hid hr
                have HEE := Lib.hid he
                have HB0 := Lib.hid hb0
                have h4 : decide ((xs.length : Int) < 4) = false := decide_eq_false (by omega)
                clear hrs' hr he hb0 hbB hbP hrs hl4 hx0 hx1 hx2 hx3 g0 hd hlt hwz
                go_wp2
                refine bodyPost_ret (v := .agg #[.string (strOf K), .int .i64 (x0 : Nat), .int .i64 (x1 : Nat), .int .i64 (x2 : Nat), .int .i64 (x3 : Nat)]) (by simp [results, Tryd.results86, go_sem, f0, f1, f2, f3, f4]) rfl ?_
                refine POut.ok HN.out rfl ?_ ?_
                · exact HRR.out.eff (F := fun k => k = w.heap.size) (((((Eff.refl (fun k => k = w.heap.size) wr).setCell (p := ⟨w.heap.size, 0, none⟩) (fun _ => rfl) _).setCell (p := ⟨w.heap.size, 1, none⟩) (fun _ => rfl) _).setCell (p := ⟨w.heap.size, 2, none⟩) (fun _ => rfl) _).setCell (p := ⟨w.heap.size, 3, none⟩) (fun _ => rfl) _ |>.setCell (p := ⟨w.heap.size, 4, none⟩) (fun _ => rfl) _) (fun k hk hF => by
                    subst hF
                    rcases hk with hk | hk
                    · omega
                    · exact HRR.out.own.ne_type HB0.out (by decide) hk)
                · exact ((((HEE.out.setCell (p := ⟨w.heap.size, 0, none⟩) (fun h => by simp at h) _).setCell (p := ⟨w.heap.size, 1, none⟩) (fun h => by simp at h) _).setCell (p := ⟨w.heap.size, 2, none⟩) (fun h => by simp at h) _).setCell (p := ⟨w.heap.size, 3, none⟩) (fun h => by simp at h) _).setCell (p := ⟨w.heap.size, 4, none⟩) (fun h => by simp at h) _
          · have hcond : ¬ (0 < K.length ∧ (false = true ∨ shr s.data.toList K = u)) := fun h => h.2.elim (fun h => by cases h) h1
            have hn : RES = none := by rw [HRS2.out, if_neg hcond]
            have HN := Lib.hid hn
            have t1 : (((shr s.data.toList K : Nat) : Int) == (u : Int)) = false := by rw [beq_eq_false_iff_ne]; exact fun e => h1 (Int.ofNat_inj.1 e)
            obtain ⟨o4, ho4⟩ : ∃ o4, o4 = Obj.cells #[.string (strOf K), .int .i64 0, .int .i64 0, .int .i64 0, .int .i64 0] 116 := ⟨_, rfl⟩
            rw [← ho4] at C4 ⊢
            have he4 : Eff (fun k => k = p) w (w2.alloc o4) := HE02.out.alloc _
            have hc4 := (HDW.out.eff he4 HG.out (fun k hk => by subst hk; exact hp)).c
            rw [ho4] at C4
            have HO4 := Lib.hid ho4
            have HE4 := Lib.hid he4
            have HC4 := Lib.hid hc4
            clear hcs hK2 h1 hcond hn h0 ho4 he4 hc4
            rw [HO4.out]
            go_wp2_with fail
            refine C4.mono ?_
            rintro e w4 ⟨rfl, d, rfl⟩
            clear C4
            rw [← HO4.out]
            have C5 := sure_no ((w2.alloc o4).drewN d) EA HC4.out
            rw [HO4.out] at C5 ⊢
            go_wp2_with fail
            refine C5.mono ?_
            rintro e w5 ⟨rfl, rfl⟩
            rw [← HO4.out]
            unfold gaveUp
            go_wp2
            exact ⟨rfl, POut.no HN.out rfl (HE4.out.drewN d)⟩
      · have hcond : ¬ (0 < K.length ∧ (first = true ∨ shr s.data.toList K = u)) := fun h => h0 h.1
        have hn : RES = none := by rw [HRS2.out, if_neg hcond]
        have HN := Lib.hid hn
        have t0 : decide (0 < (strOf K).size) = false := decide_eq_false (by rw [hcs]; exact h0)
        obtain ⟨o4, ho4⟩ : ∃ o4, o4 = Obj.cells #[.string (strOf K), .int .i64 0, .int .i64 0, .int .i64 0, .int .i64 0] 116 := ⟨_, rfl⟩
        have he4 : Eff (fun k => k = p) w (w2.alloc o4) := HE02.out.alloc _
        have hc4 := (HDW.out.eff he4 HG.out (fun k hk => by subst hk; exact hp)).c
        have C5 := sure_no (w2.alloc o4) EA hc4
        rw [ho4] at C5 he4
        have HE4 := Lib.hid he4
        clear hcs hK2 hcond hn h0 ho4 he4 hc4
        go_wp2_with fail
        refine C5.mono ?_
        rintro e w5 ⟨rfl, rfl⟩
        unfold gaveUp
        go_wp2
        exact ⟨rfl, POut.no HN.out rfl HE4.out⟩
end Go.Proofs.YtejmjjgbbojfbaaDoor
