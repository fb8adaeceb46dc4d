/- auto: columns. -/
import Derived.Test.YtejmjjgbbojfbaaDoorZG11
import Derived.Test.YtejmjjgbbojfbaaDoorZLayF
namespace Go.Proofs.YtejmjjgbbojfbaaDoor
set_option linter.unusedVariables false
open Go.ChangeShapes Go.WideShapes Go.ChangeAt Go.RowKit

/-- What columns answers. -/
def ColPost (w : World) (T : Tab) (e : Ending) (w' : World) : Prop := ∃ A C bs, e = .returned (.slice A (bs : List Nat).length C) ∧ Own w' w.heap.size 3 (.slice A bs.length C) (natsV bs) ∧ Cols T.n T.nx bs 256 ∧ bs.length ≤ 256 ∧ Below w.heap.size w w'
structure CoS (w wr : World) (T : Tab) (mb : Nat) (lv : Value) (bs : List Nat) : Prop where
  mp : StrMap wr mb bs.length 65536 (colF T.n T.nx bs)
  hm : w.heap.size ≤ mb
  all : Own wr w.heap.size 3 lv (natsV bs)
  bl : Below w.heap.size w wr
theorem CoS.below {w wr w2 : World} {T : Tab} {mb : Nat} {lv : Value} {bs : List Nat} (h : CoS w wr T mb lv bs) (hb : Below wr.heap.size wr w2) : CoS w w2 T mb lv bs :=
  ⟨h.mp.below hb (Nat.le_refl _), h.hm, h.all.below hb (Nat.le_refl _), h.bl.trans (hb.mono h.bl.size)⟩
set_option maxRecDepth 100000 in
set_option maxHeartbeats 4000000 in
theorem columns_any (w : World) (B g : Nat) (nv av : Value) (T : Tab) (h : GraphAt w B g nv av T) (hn : T.n ≤ 1024) (hr : ∀ s c, s < T.n → c < 256 → T.nx s c < T.n) :
    Calls Tryd.prog 62 #[.pointer (some ⟨g, 0, none⟩)] w (ColPost w T) := by
  have HG := Lib.hid (show ∀ X, Below w.heap.size w X → GraphAt X B g nv av T from fun X e => h.below e (Nat.le_refl _))
  have HR := Lib.hid hr
  have hS : CoS w (w.alloc (.map #[] 0)) T w.heap.size (.slice none 0 0) [] := ⟨StrMap.made w 65536, Nat.le_refl _, own_nil _ _ _, (Below.refl _ _).alloc (Nat.le_refl _) _⟩
  have HS := Lib.hid hS
  have hmm := @run_makeMap Tryd.prog
  obtain ⟨na, nc, hnv, hnc, -⟩ := h.at_
  subst hnv
  have hgz : g < w.heap.size := lt_of_heap h.blk
  clear h hr hS
  go_enter Tryd.func62, Tryd.ntmps62
  go_upto_region 4 with fail
  generalize w.alloc (.map #[] 0) = W at HS ⊢
  clear hmm
  go_loopw [3, 12] (fun s3 s12 wr => ∃ (c : Nat) (bs : List Nat) (A : Option Addr) (C : Nat), s3 = .slice A bs.length C ∧ s12 = .int .i64 (c : Nat) ∧ c ≤ 256 ∧ RowKit.Hid (CoS w wr T w.heap.size (.slice A bs.length C) bs) ∧ RowKit.Hid (Cols T.n T.nx bs c ∧ bs.length ≤ c)) (fun _ s12 _ => 256 - (intOf s12).toNat)
  case atStart => exact ⟨0, [], none, 0, rfl, rfl, Nat.zero_le _, HS, Lib.hid ⟨cols_zero _ _, Nat.le_refl _⟩⟩
  case round =>
    clear HS
    obtain ⟨c, bs, A, C, rfl, rfl, hc, HS, HC⟩ := hrel
    by_cases hlt : c < 256
    · have hgr := HG.out wr HS.out.bl
      have c0 : wr.cell? ⟨g, 0, none⟩ = some (.slice na T.n nc) := blk_cell hgr.blk 0
      obtain ⟨wo, rfl⟩ : ∃ wo : World, wo = wr := ⟨_, rfl⟩
      clear hgr
      have tc : decide ((c : Int) < 256) = true := decide_eq_true (by omega)
      go_upto_region 8 with fail
      clear c0 tc
      go_loopw [6, 20] (fun s6 s20 wr => ∃ (s : Nat) (A6 : Option Addr) (C6 : Nat), s6 = .slice A6 (2 * s) C6 ∧ s20 = .int .i64 (s : Nat) ∧ s ≤ T.n ∧ RowKit.Hid (Own wr wo.heap.size 5 (.slice A6 (2 * s) C6) (bytesV (colL s T.nx c))) ∧ RowKit.Hid (Below wo.heap.size wo wr)) (fun _ s20 _ => T.n - (intOf s20).toNat)
      case atStart => exact ⟨0, none, 0, rfl, rfl, Nat.zero_le _, Lib.hid (own_nil _ _ _), Lib.hid (Below.refl _ _)⟩
      case round =>
        obtain ⟨s, A6, C6, rfl, rfl, hs, HK, HB⟩ := hrel
        by_cases hlt2 : s < T.n
        · have hgr := HG.out wr (HS.out.bl.trans (HB.out.mono HS.out.bl.size))
          obtain ⟨gb, gc, hv, -, -, hgl, hrg⟩ := hgr.range hlt2
          injection hv with e1 e2 e3
          subst e1 e3
          have hrn := HR.out s c hlt2 hlt
          obtain ⟨x, hx⟩ : ∃ x, T.nx s c = x := ⟨_, rfl⟩
          rw [hx] at hrn
          have hz := arr_zeroK (T.nx s)
          have HRG := Lib.hid hrg
          have HX := Lib.hid hx
          clear hgr hrg hx e2
          go_wp2_with (first | (with_reducible refine wp_row_load HRG.out rfl _ rfl rfl ?_) | (with_reducible refine wp_row_var (T.nx s) rfl _ _ rfl rfl rfl ?_))
          have hrow := heap_alloc_new wr (.cells (rowV (T.nx s)).toArray 136)
          have hbw : Below wo.heap.size wo (wr.alloc (.cells (rowV (T.nx s)).toArray 136)) := HB.out.alloc HB.out.size _
          have hok := HK.out.alloc (.cells (rowV (T.nx s)).toArray 136)
          have q1 : (wr.alloc (.cells (rowV (T.nx s)).toArray 136)).cell? ⟨wr.heap.size, c, none⟩ = some (.int .i64 (x : Nat)) := by rw [blk_cell hrow, List.getElem?_toArray, ← HX.out]; exact rowV_get _ hlt
          generalize wr.alloc (.cells (rowV (T.nx s)).toArray 136) = X at q1 hbw hok hrow ⊢
          generalize wr.heap.size = rv at q1 hrow ⊢
          have HBW := Lib.hid hbw
          have HOK := Lib.hid hok
          have q2 : X.drew.cell? ⟨rv, c, none⟩ = some (.int .i64 (x : Nat)) := q1
          have HBD := Lib.hid hbw.drew
          have HOD := Lib.hid hok.drew
          have HROW := Lib.hid (show X.drew.heap[rv]? = some (.cells (rowV (T.nx s)).toArray 136 (0, 0)) from hrow)
          have i0 : (c : Int) < 256 := by omega
          have i2 : IntKind.u8.wrap ((x : Int) / 256) = (x : Int) / 256 := by rw [IntKind.wrap_u8]; omega
          have i1 : IntKind.u8.wrap (x : Int) = (x : Int) % 256 := by rw [IntKind.wrap_u8]
          clear hrow hbw hok hz HBW HOK
          --REGION10
          refine wp_region_noPanic ?_
          refine wp_region_held_drew (S := fun X => X.cell? ⟨rv, c, none⟩ = some (.int .i64 (x : Nat))) (by kernel_rfl) q2 (fun hHeld => ?_)
          refine wpAnyH_take (i := 0) (v := ?_) rfl (by kernel_rfl) (by kernel_rfl) (by kernel_rfl) (fun _ _ _ h => h) (Or.inl ⟨by kernel_rfl, ?_⟩) hHeld ?_
          rotate_left
          · intro w hSw
            go_simp
            try with_reducible rfl
          refine wpAnyH_take (i := 1) (v := ?_) rfl (by kernel_rfl) (by kernel_rfl) (by kernel_rfl) (fun _ _ _ h => h) (Or.inl ⟨by kernel_rfl, ?_⟩) hHeld ?_
          rotate_left
          · intro w hSw
            go_simp
            try with_reducible rfl
          refine wpAnyH_take (i := 2) (v := ?_) rfl (by kernel_rfl) (by kernel_rfl) (by kernel_rfl) (fun _ _ _ h => h) (Or.inl ⟨by kernel_rfl, ?_⟩) hHeld ?_
          rotate_left
          · intro w hSw
            go_simp
            try with_reducible rfl
          refine wpAnyH_take (i := 3) (v := ?_) rfl (by kernel_rfl) (by kernel_rfl) (by kernel_rfl) (fun _ _ _ h => h) (Or.inl ⟨by kernel_rfl, ?_⟩) hHeld ?_
          rotate_left
          · intro w hSw
            go_simp
            try with_reducible rfl
          refine wpAnyH_take (i := 4) (v := ?_) rfl (by kernel_rfl) (by kernel_rfl) (by kernel_rfl) (fun _ _ _ h => h) (Or.inl ⟨by kernel_rfl, ?_⟩) hHeld ?_
          rotate_left
          · intro w hSw
            go_simp
            try with_reducible rfl
          refine wpAnyH_take (i := 5) (v := ?_) rfl (by kernel_rfl) (by kernel_rfl) (by kernel_rfl) (fun _ _ _ h => h) (Or.inl ⟨by kernel_rfl, ?_⟩) hHeld ?_
          rotate_left
          · intro w hSw
            go_simp
            try with_reducible rfl
          refine wpAnyH_take (i := 6) (v := ?_) rfl (by kernel_rfl) (by kernel_rfl) (by kernel_rfl) (fun _ _ _ h => h) (Or.inl ⟨by kernel_rfl, ?_⟩) hHeld ?_
          rotate_left
          · intro w hSw
            go_simp
            try with_reducible rfl
          refine wpAnyH_take (i := 7) (v := ?_) rfl (by kernel_rfl) (by kernel_rfl) (by kernel_rfl) (fun _ _ _ h => h) (Or.inl ⟨by kernel_rfl, ?_⟩) hHeld ?_
          rotate_left
          · intro w hSw
            go_simp
            try with_reducible rfl
          refine wpAnyH_take (i := 8) (v := ?_) rfl (by kernel_rfl) (by kernel_rfl) (by kernel_rfl) (fun _ _ _ h => h) (Or.inl ⟨by kernel_rfl, ?_⟩) hHeld ?_
          rotate_left
          · intro w hSw
            go_simp
            try with_reducible rfl
          refine wpAnyH_take (i := 9) (v := ?_) rfl (by kernel_rfl) (by kernel_rfl) (by kernel_rfl) (fun _ _ _ h => h) (Or.inl ⟨by kernel_rfl, ?_⟩) hHeld ?_
          rotate_left
          · intro w hSw
            go_simp
            try with_reducible rfl
          generalize World.drew X = X0 at HBD HOD HROW hHeld ⊢
          have qa : (X0.alloc (.cells #[.int .u8 ((x : Int) % 256), .int .u8 ((x : Int) / 256)] 5)).cell? ⟨rv, c, none⟩ = some (.int .i64 (x : Nat)) := (World.cell?_alloc_some _ _ _ (by rw [hHeld]; rfl)).trans hHeld
          have hnew := own_lit X0 wo.heap.size 5 [.int .u8 ((x : Int) % 256), .int .u8 ((x : Int) / 256)] HBD.out.size (by simp [maxLen])
          have hbn := HBD.out.alloc HBD.out.size (.cells #[.int .u8 ((x : Int) % 256), .int .u8 ((x : Int) / 256)] 5)
          have hon := HOD.out.alloc (.cells #[.int .u8 ((x : Int) % 256), .int .u8 ((x : Int) / 256)] 5)
          have hrn1 := (Below.heap_alloc X0 (.cells #[.int .u8 ((x : Int) % 256), .int .u8 ((x : Int) / 256)] 5) rv (lt_of_heap HROW.out)).trans HROW.out
          have HNEW := Lib.hid hnew
          have HBN := Lib.hid hbn
          have HON := Lib.hid hon
          have HRN := Lib.hid hrn1
          have HQA := Lib.hid qa
          clear hnew hbn hon hrn1 qa
          refine wpAnyH_ready (rs := [10]) (by kernel_rfl) (by simp) ?_
          refine AllReadyH.cons rfl (fun KK hKK => ?_) ?_
          rotate_left
          · exact AllReadyH.nil
          rw [if_pos (by kernel_rfl)]
          go_simp
          refine hKK.out _ _ HQA.out (fun hHeld => ?_)
          clear hKK KK HQA
          generalize X0.alloc (.cells #[.int .u8 ((x : Int) % 256), .int .u8 ((x : Int) / 256)] 5) = X1 at HNEW HBN HON HRN hHeld ⊢
          generalize X0.heap.size = z0 at HNEW ⊢
          have hl1 : (bytesV (colL s T.nx c)).length + ([.int .u8 ((x : Int) % 256), .int .u8 ((x : Int) / 256)] : List Value).length < 1000000000001 := by rw [bytesV_length, colL_length]; simp; omega
          have hone : ∀ u ∈ ([.int .u8 ((x : Int) % 256), .int .u8 ((x : Int) / 256)] : List Value), u.oneCell' = true := fun u hu => by
            simp at hu
            rcases hu with rfl | rfl <;> rfl
          have HL1 := Lib.hid hl1
          have HONE := Lib.hid hone
          clear hl1 hone
          refine wpAnyH_ready (rs := [11]) (by kernel_rfl) (by simp) ?_
          refine AllReadyH.cons rfl (fun KK hKK => ?_) ?_
          rotate_left
          · exact AllReadyH.nil
          refine step_apN elBytes HON.out HNEW.out.rd HONE.out HL1.out HBN.out.size rfl (.tmp 24) (.tmp 34) rfl (by kernel_rfl) (by kernel_rfl) ?_
          intro v1 X2 k1 k2 k3 k4
          have hb2 := HBN.out.grown k4 HBN.out.size (fun q hq => (HON.out.lt q hq).1)
          have hq2 : X2.cell? ⟨rv, c, none⟩ = some (.int .i64 (x : Nat)) := by
            have e3 := Eff.ofGrown k4
            exact e3.cell (p := ⟨rv, c, none⟩) (fun e => HON.out.ne_type HRN.out (by decide) e) hHeld
          have hcol : bytesV (colL s T.nx c) ++ [.int .u8 ((x : Int) % 256), .int .u8 ((x : Int) / 256)] = bytesV (colL (s + 1) T.nx c) := by
            rw [colL_succ, bytesV_append, HX.out, enc16_cells (by omega)]
          rw [hcol] at k1
          obtain ⟨A7, C7, hv7⟩ := own_slice k1
          rw [bytesV_length, colL_length] at hv7
          subst hv7
          have HK7 := Lib.hid k1
          have HB7 := Lib.hid hb2
          refine hKK.out _ _ hq2 (fun hHeld => ?_)
          clear hKK KK k1 k2 k3 k4 hb2 hq2 hcol
          refine wpAnyH_take (i := 12) (v := ?_) rfl (by kernel_rfl) (by kernel_rfl) (by kernel_rfl) (fun _ _ _ h => h) (Or.inl ⟨by kernel_rfl, ?_⟩) hHeld ?_
          rotate_left
          · intro w hSw
            go_simp
            try with_reducible rfl
          clear hHeld
          refine wpAnyH_done (by kernel_rfl) ?_ _
          refine NoPanic.normal ?_
          go_wp2_with fail
          go_roundw
          case rel => exact ⟨s + 1, A7, C7, rfl, by go_num, by omega, HK7, HB7⟩
          case measure => simp [intOf]; omega
        · obtain rfl : s = T.n := by omega
          obtain ⟨X, hX⟩ : ∃ X, strOf (colL T.n T.nx c) = X := ⟨_, rfl⟩
          have hXl : X.data.toList = colL T.n T.nx c := by rw [← hX]; simp [strOf]
          have hXs : X.size ≤ maxLen := by rw [← hX, strOf_size, colL_length]; unfold maxLen; omega
          have hcv : (convert 26 9 (.slice A6 (2 * T.n) C6)).run Tryd.prog wr = .ok (.string X) wr := by rw [← hX]; exact run_str Tryd.underlying26 Tryd.underlying5 Tryd.underlying9 HK.out.rd
          have hS2 := HS.out.below HB.out
          have HS2 := Lib.hid hS2
          have HXL := Lib.hid hXl
          have HXS := Lib.hid hXs
          have iz := int_zero
          have HIZ := Lib.hid iz
          have HMP := Lib.hid hS2.mp
          clear hX hXl hXs hS2 iz HS HB HK
          cases hid : colF T.n T.nx bs X with
          | some b =>
            obtain ⟨hb1, hb2⟩ := colF_some hid
            have hb256 := HC.out.1.1 b hb1
            rw [HXL.out] at hb2
            have hcols := cols_hit HC.out.1 hb1 (colL_inj (fun q hq => ⟨by have := HR.out q b hq hb256; omega, by have := HR.out q c hq hlt; omega⟩) hb2)
            have HCOL := Lib.hid hcols
            have HID2 := Lib.hid hid
            clear hb1 hb2 hb256 hcols hid
            go_wp2_with (at_lookup; with_reducible refine mp_look HMP.out X HXS.out rfl _ _ _ rfl Tryd.underlying135 (HIZ.out _) rfl rfl ?_; rw [HID2.out]; simp only [Option.getD_some, Option.isSome_some])
            go_roundw
            case rel => exact ⟨c + 1, bs, A, C, rfl, by go_num, by omega, HS2, Lib.hid ⟨HCOL.out, by have := HC.out.2; omega⟩⟩
            case measure => simp [intOf]; omega
          | none =>
            have hc2 : c < 65536 := by omega
            have hc3 : c ≤ 1000000000 := by omega
            have hbl : bs.length < 1000000000 := by have := HC.out.2; omega
            have HC2 := Lib.hid hc2
            have HC3 := Lib.hid hc3
            have HBL := Lib.hid hbl
            have HID2 := Lib.hid hid
            clear hc2 hc3 hbl hid
            go_upto_region 15 with (first | (at_lookup; with_reducible refine mp_look HMP.out X HXS.out rfl _ _ _ rfl Tryd.underlying135 (HIZ.out _) rfl rfl ?_; rw [HID2.out]; simp only [Option.getD_none, Option.isSome_none]) | (at_mapUpdate; with_reducible refine mp_put HMP.out HBL.out X HXS.out HID2.out c HC2.out HC3.out rfl _ _ _ _ rfl Tryd.underlying135 rfl rfl rfl ?_; intro w5 g1 g2))
            have he := Eff.ofGrown g2
            have hm5 : StrMap w5 w.heap.size (bs ++ [c]).length 65536 (colF T.n T.nx (bs ++ [c])) := by
              rw [← colF_snoc HXL.out HID2.out, List.length_append]; exact g1
            have ho5 := HS2.out.all.eff he (fun k hk e => HS2.out.mp.ne_own HS2.out.all (by rw [hk, e]))
            have hz5 := HS2.out.bl.size
            have hb5 := HS2.out.bl.grown g2 hz5 (fun k hk => by rw [← Option.some.inj hk]; exact Nat.le_refl _)
            have hz6 := hb5.size
            have hl5 : (natsV bs).length < 1000000000000 := by rw [natsV_length]; have := HBL.out; omega
            have HM5 := Lib.hid hm5
            have HO5 := Lib.hid ho5
            have HB5 := Lib.hid hb5
            have HL5 := Lib.hid hl5
            clear g1 g2 he hm5 ho5 hz5 hb5 hl5 hcv
            go_wp2_with (at_builtin; with_reducible refine ap1' elIntG rfl HO5.out HL5.out hz6 rfl _ _ rfl rfl rfl ?_)
            intro v6 w6 g1 g2 g3 g4
            have he := Eff.ofGrown g4
            rw [← natsV_snoc] at g1
            obtain ⟨A7, C7, hv7⟩ := own_slice g1
            rw [natsV_length] at hv7
            subst hv7
            have hS7 : CoS w w6 T w.heap.size (.slice A7 (bs ++ [c]).length C7) (bs ++ [c]) := ⟨HM5.out.eff he (fun e => HM5.out.ne_own HO5.out e), Nat.le_refl _, g1, HB5.out.grown g4 hz6 (fun k hk => (HO5.out.lt k hk).1)⟩
            have HS7 := Lib.hid hS7
            clear g1 g2 g3 g4 he hS7 hz6
            go_wp2
            go_roundw
            case rel => exact ⟨c + 1, bs ++ [c], A7, C7, rfl, by go_num, by omega, HS7, Lib.hid ⟨cols_new HC.out.1 hlt, by rw [List.length_append, List.length_singleton]; have := HC.out.2; omega⟩⟩
            case measure => simp [intOf]; omega
    · obtain rfl : c = 256 := by omega
      go_wp2
      go_ret
      exact ⟨A, C, bs, rfl, HS.out.all, HC.out.1, HC.out.2, HS.out.bl⟩
end Go.Proofs.YtejmjjgbbojfbaaDoor
