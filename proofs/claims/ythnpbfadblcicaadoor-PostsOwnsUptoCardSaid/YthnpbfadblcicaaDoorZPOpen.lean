/- posts: Open. -/
import Derived.Test.YthnpbfadblcicaaDoorZG15
import Derived.Test.YthnpbfadblcicaaDoorZHdW
import Derived.Test.YthnpbfadblcicaaDoorZUnpack
namespace Go.Proofs.YthnpbfadblcicaaDoor
set_option linter.unusedVariables false
open Go.ChangeShapes Go.WideShapes Go.ChangeAt Go.RowKit

set_option maxRecDepth 100000 in
set_option maxHeartbeats 8000000 in
theorem open_any (w : World) (a : Option Addr) (nb cb : Nat) (b : List UInt8) (hr : Rd w (.slice a nb cb) (bytesV b)) (hb : b.length ≤ 1000000000) (EA : Nat → Addr) (hS : Sent6 w EA) :
    Calls Tryd.prog 13 #[.slice a nb cb] w (OpenPost w EA b) := by
  have C1 := cat_one w _ b hr hb
  have HS := Lib.hid hS
  clear hr hS
  go_enter Tryd.func13, Tryd.ntmps13
  go_wp2_with fail
  with_reducible refine C1.mono ?_
  rintro e w1 ⟨im, rfl, ho1, hb1⟩
  clear C1
  obtain ⟨ai, ni, ci, rfl⟩ := own_sl ho1
  have hs1 := hb1.size
  have hl0 : ListAt (w1.alloc (.cells #[.slice ai ni ci, .int .i64 0, .int .i64 0, .slice none 0 0] 83)) w.heap.size w1.heap.size (.slice ai ni ci) (.slice none 0 0) b 0 0 [] :=
    ⟨heap_alloc_new w1 _, hs1, ho1.alloc _, RowS.nil _ _⟩
  have hbA := hb1.alloc hs1 (.cells #[.slice ai ni ci, .int .i64 0, .int .i64 0, .slice none 0 0] 83)
  have HL0 := Lib.hid hl0
  have HBA := Lib.hid hbA
  clear ho1 hb1 hl0 hbA
  go_upto_region 2 with fail
  generalize w1.alloc (.cells #[.slice ai ni ci, .int .i64 0, .int .i64 0, .slice none 0 0] 83) = w2 at HL0 HBA ⊢
  generalize w1.heap.size = p at HL0 hs1 ⊢
  have hlow : GLow w.heap.size := (rerr_of HS.out).lt
  have C2 := heads_any w2 w.heap.size p _ b HL0.out HBA.out.size hb EA (rerr_of (HS.out.below HBA.out)) hlow
  clear hlow
  go_wp2_with fail
  with_reducible refine C2.mono ?_
  rintro e w3 ⟨h1, h2, he3⟩
  clear C2
  have hb3 := HBA.out.trans (he3.below (fun k hk => by subst hk; exact HL0.out.hp) HBA.out.size)
  cases hh : headsV b with
  | none =>
    obtain rfl := h1 hh
    have c0 := (HS.out.below hb3).c10
    have HNO := Lib.hid (openV_heads0 hh)
    have HB3 := Lib.hid hb3
    clear h1 h2 he3 hb3 hh HL0
    go_wp2
    go_quiet (fail)
    go_wp2
    go_ret2
    exact OpenPost.no HNO.out (below_drewN HB3.out _)
  | some y =>
    obtain ⟨n, t, S⟩ := y
    obtain ⟨rfl, sv, hl3⟩ := h2 n t S hh
    obtain ⟨q, R0, hok⟩ := headsOk hh hb
    obtain ⟨BLS, hBLS⟩ : ∃ BLS, blkV b (-1) S = BLS := ⟨_, rfl⟩
    have HO := Lib.hid (show openV b = finB n t S BLS by rw [openV_heads hh, hBLS])
    have hop : OpS w w3 p (.slice ai ni ci) sv b n t S := ⟨hl3, hb3⟩
    obtain ⟨sa, sc, rfl⟩ := hl3.sk.sl
    have p3 : w3.cell? ⟨p, 3, none⟩ = some (.slice sa S.length sc) := blk_cell hl3.blk 3
    have hsl := hok.len
    have HOP := Lib.hid hop
    have HB0 := Lib.hid (show contB [] (blkV b (lastS (S.take 0)) (S.drop 0)) = BLS by
      rw [List.drop_zero]; show contB [] (blkV b (-1) S) = BLS; rw [hBLS]; unfold contB; cases BLS <;> simp)
    have HOK := Lib.hid hok
    clear h1 h2 he3 hb3 hh hl3 hok hBLS hop HL0 HBA
    go_wp2
    clear p3
    go_loopw [5, 26] (fun s5 s26 wr => ∃ (k qk tt : Nat) (R : List SkV) (done : List (List PostV)), s5 = .int .i64 (tt : Nat) ∧ s26 = .int .i64 (k : Nat) ∧ k ≤ S.length ∧ S.drop k = putAt qk R ∧ qk + sizesV R = b.length ∧ (∀ s ∈ R, 1 ≤ s.docs ∧ s.docs ≤ 16) ∧
        totalV done.flatten = tt ∧ tt ≤ qk ∧ -1 ≤ lastS (S.take k) ∧ lastS (S.take k) < 2147483647 ∧ OpS w wr p (.slice ai ni ci) (.slice sa S.length sc) b n t S ∧ contB done (blkV b (lastS (S.take k)) (S.drop k)) = BLS) (fun _ s26 _ => S.length - (intOf s26).toNat)
    case atStart => exact ⟨0, q, 0, R0, [], rfl, rfl, Nat.zero_le _, by rw [List.drop_zero]; exact HOK.out.eq, HOK.out.sz, HOK.out.dc, rfl, Nat.zero_le _, by rw [List.take_zero]; decide, by rw [List.take_zero]; decide, HOP.out, HB0.out⟩
    case round =>
      clear HOP HB0 HOK
      obtain ⟨k, qk, tt, R, done, rfl, rfl, hk, hput, hsz, hdc, htt, htq, hla0, hla1, hop, hbl⟩ := hrel
      by_cases hlt : k < S.length
      · have i1 : (k : Int) < (S.length : Int) := by omega
        rw [List.drop_eq_getElem_cons hlt] at hput hbl
        have hltk := lastS_take S k hlt
        obtain ⟨x, hx⟩ : ∃ x, S[k] = x := ⟨_, rfl⟩
        rw [hx] at hput hbl hltk
        cases R with
        | nil => simp [putAt] at hput
        | cons s R' =>
        rw [putAt] at hput
        injection hput with e1 hput
        subst e1
        obtain ⟨dl, ds⟩ := hdc s (List.mem_cons_self ..)
        obtain ⟨la, dc, at0, sz⟩ := s
        simp only at hput hx hbl hltk dl ds
        unfold sizesV at hsz
        rw [List.map_cons, List.sum_cons] at hsz
        simp only at hsz
        obtain ⟨bs, hbs⟩ : ∃ bs, lastS (S.take k) = bs := ⟨_, rfl⟩
        rw [hbs] at hla0 hla1 hbl
        rw [blkV] at hbl
        simp only at hbl
        obtain ⟨g, rfl, _, _, hc⟩ := hop.l.sk.at_ k hlt
        rw [hx] at hc
        have c0 : wr.cell? ⟨g, k * 4, none⟩ = some (.int .i64 la) := hc 0 _ rfl
        have c1 : wr.cell? ⟨g, k * 4 + 1, none⟩ = some (.int .i64 (dc : Nat)) := hc 1 _ rfl
        have c2 : wr.cell? ⟨g, k * 4 + 2, none⟩ = some (.int .i64 (qk : Nat)) := hc 2 _ rfl
        have c3 : wr.cell? ⟨g, k * 4 + 3, none⟩ = some (.int .i64 (sz : Nat)) := hc 3 _ rfl
        have hopA := hop.step ((Below.refl wr.heap.size wr).alloc (Nat.le_refl _) (.cells #[.int .i64 la, .int .i64 (dc : Nat), .int .i64 (qk : Nat), .int .i64 (sz : Nat)] 45))
        have e1 := heap_alloc_new wr (.cells #[.int .i64 la, .int .i64 (dc : Nat), .int .i64 (qk : Nat), .int .i64 (sz : Nat)] 45)
        have HOPA := Lib.hid hopA
        have HE1 := Lib.hid e1
        have HBL := Lib.hid hbl
        have HPUT := Lib.hid hput
        have HLTK := Lib.hid hltk
        have HX := Lib.hid hx
        have HBS := Lib.hid hbs
        have HDC := Lib.hid hdc
        clear hop hopA e1 hc hbl hput hltk hx hbs hdc
        go_upto_region 8 with fail
        generalize wr.alloc (.cells #[.int .i64 la, .int .i64 (dc : Nat), .int .i64 (qk : Nat), .int .i64 (sz : Nat)] 45) = W at HOPA HE1 ⊢
        generalize wr.heap.size = GS at HE1 ⊢
        clear c0 c1 c2 c3
        obtain ⟨PB, hPB⟩ : ∃ PB, (b.drop qk).take sz = PB := ⟨_, rfl⟩
        have hPl : PB.length = sz := by rw [← hPB, List.length_take, List.length_drop]; omega
        rw [hPB] at HBL
        have hslx : S.length ≤ 2000000000 := by omega
        have hC2 : ∀ W', OpS w W' p (.slice ai ni ci) (.slice (some ⟨g, 0, none⟩) S.length sc) b n t S → Calls Tryd.prog 43 #[.pointer (some ⟨p, 0, none⟩), .int .i64 (k : Nat)] W' fun e w' => ∃ A N C, e = .returned (.slice A N C) ∧ Rd w' (.slice A N C) (bytesV PB) ∧ OpS w w' p (.slice ai ni ci) (.slice (some ⟨g, 0, none⟩) S.length sc) b n t S ∧ Below W'.heap.size W' w' := fun W' ho => by
          have h9 := piece_any W' w.heap.size p _ _ b n t S ho.l hb k hlt hslx (by rw [HX.out]; simp only; omega)
          rw [HX.out] at h9
          simp only [hPB] at h9
          refine h9.mono ?_
          rintro e w' ⟨A, N, C, rfl, hrd, hbb⟩
          exact ⟨A, N, C, rfl, hrd, ho.step hbb, hbb⟩
        have hC3 : ∀ W', OpS w W' p (.slice ai ni ci) (.slice (some ⟨g, 0, none⟩) S.length sc) b n t S → Calls Tryd.prog 44 #[.pointer (some ⟨p, 0, none⟩), .int .i64 (k : Nat)] W' fun e w' => e = .returned (.int .i64 bs) ∧ W' = w' := fun W' ho => by
          have h9 := base_any W' w.heap.size p _ _ b n t S ho.l k (Nat.le_of_lt hlt) hslx
          rw [HBS.out] at h9
          exact h9
        have hC4 : ∀ W' A N C, OpS w W' p (.slice ai ni ci) (.slice (some ⟨g, 0, none⟩) S.length sc) b n t S → Rd W' (.slice A N C) (bytesV PB) → Calls Tryd.prog 42 #[.slice A N C, .int .i64 bs, .int .i64 (dc : Nat)] W' (UnpPost W' bs dc PB) := fun W' A N C ho hrd =>
          unp_any W' A N C PB hrd (by omega) bs hla0 hla1 dc ds EA (HS.out.below ho.b)
        have HC2 := Lib.hid hC2
        have HC3 := Lib.hid hC3
        have HC4 := Lib.hid hC4
        have HPB := Lib.hid hPB
        have c1 := blk_cell HE1.out 1
        have hGSl := lt_of_heap HE1.out
        clear hC2 hC3 hC4 hPB
        cases hu : unpV bs dc PB with
        | none =>
          have hno : openV b = none := by rw [HO.out, ← HBL.out, hu]; rfl
          have HNO := Lib.hid hno
          have HU := Lib.hid hu
          clear hno hu
          go_cut [8, 9] (fun s8 s9 wx => ∃ A N C, s8 = .slice A N C ∧ s9 = .bool false ∧ OpS w wx p (.slice ai ni ci) (.slice (some ⟨g, 0, none⟩) S.length sc) b n t S)
          case first =>
            have hop0 : OpS w W.drew p (.slice ai ni ci) (.slice (some ⟨g, 0, none⟩) S.length sc) b n t S := HOPA.out.drewN 1
            have e0 : W.drew.heap[GS]? = some (.cells #[.int .i64 la, .int .i64 (dc : Nat), .int .i64 (qk : Nat), .int .i64 (sz : Nat)] 45 (0, 0)) := HE1.out
            have d1 := blk_cell e0 1
            go_region_with (first
              | (go_at_call 43; (with_reducible refine (HC2.out _ hop0).mono ?_); rintro e w5 ⟨A5, N5, C5, rfl, hrd5, hop5, hbb5⟩; have e5 := (hbb5.block _ (lt_of_heap e0)).trans e0; have d5 := blk_cell e5 1)
              | (go_at_call 44; (first | with_reducible refine (HC3.out _ hop0).mono ?_ | with_reducible refine (HC3.out _ hop5).mono ?_); rintro e w6 ⟨rfl, rfl⟩)
              | (go_at_call 42; (with_reducible refine (HC4.out _ _ _ _ hop5 hrd5).mono ?_); rintro e w7 ⟨-, h7⟩; obtain ⟨A7, N7, C7, rfl, hb7⟩ := h7 HU.out))
            all_goals
              go_wp2
              go_meet
              exact ⟨A7, N7, C7, rfl, rfl, hop5.step hb7⟩
          case rest =>
            clear c1
            obtain ⟨A7, N7, C7, rfl, rfl, hop⟩ := hcut
            have g10 := (HS.out.below hop.b).c10
            have HOP := Lib.hid hop
            clear hop
            go_wp2
            go_quiet (fail)
            go_wp2
            go_quiet (fail)
            go_wp2
            go_ret2
            exact OpenPost.no HNO.out (below_drewN (below_drewN HOP.out.b _) _)
        | some ps =>
          obtain ⟨u1, u2, u3, u4⟩ := unpV_form hla0 hu
          have hbge := blockB_ge u1
          rw [u2, hPl] at hbge
          have HU := Lib.hid hu
          have HU1 := Lib.hid u1
          have hbl := HBL.out
          rw [hu] at hbl
          simp only at hbl
          have HBL2 := Lib.hid hbl
          clear hbl HBL u1 u2 hu
          go_cut [8, 9] (fun s8 s9 wx => ∃ A N C vs, s8 = .slice A N C ∧ s9 = .bool true ∧ OpS w wx p (.slice ai ni ci) (.slice (some ⟨g, 0, none⟩) S.length sc) b n t S ∧ wx.heap[GS]? = some (.cells #[.int .i64 la, .int .i64 (dc : Nat), .int .i64 (qk : Nat), .int .i64 (sz : Nat)] 45 (0, 0)) ∧ RowP wx w.heap.size (.slice A N C) ps vs)
          case first =>
            have hop0 : OpS w W.drew p (.slice ai ni ci) (.slice (some ⟨g, 0, none⟩) S.length sc) b n t S := HOPA.out.drewN 1
            have e0 : W.drew.heap[GS]? = some (.cells #[.int .i64 la, .int .i64 (dc : Nat), .int .i64 (qk : Nat), .int .i64 (sz : Nat)] 45 (0, 0)) := HE1.out
            have d1 := blk_cell e0 1
            go_region_with (first
              | (go_at_call 43; (with_reducible refine (HC2.out _ hop0).mono ?_); rintro e w5 ⟨A5, N5, C5, rfl, hrd5, hop5, hbb5⟩; have e5 := (hbb5.block _ (lt_of_heap e0)).trans e0; have d5 := blk_cell e5 1)
              | (go_at_call 44; (first | with_reducible refine (HC3.out _ hop0).mono ?_ | with_reducible refine (HC3.out _ hop5).mono ?_); rintro e w6 ⟨rfl, rfl⟩)
              | (go_at_call 42; (with_reducible refine (HC4.out _ _ _ _ hop5 hrd5).mono ?_); rintro e w7 ⟨h7, -⟩; obtain ⟨A7, N7, C7, vs7, rfl, hrow7, hb7⟩ := h7 ps HU.out))
            all_goals
              go_wp2
              go_meet
              exact ⟨A7, N7, C7, vs7, rfl, rfl, hop5.step hb7, (hb7.block _ (lt_of_heap e5)).trans e5, hrow7.mono hop5.b.size⟩
          case rest =>
            clear c1
            obtain ⟨A7, N7, C7, vs, rfl, rfl, hop, hgs, hrow⟩ := hcut
            obtain rfl : dc = N7 := by
              obtain ⟨_, _, e9, _⟩ := hrow.sl
              injection e9 with _ e9 _
              omega
            obtain ⟨j, hj⟩ : ∃ j, j + 1 = ps.length := ⟨ps.length - 1, by omega⟩
            have hjl : j < ps.length := by omega
            have hlv := lastV_at bs ps j hjl hj
            obtain ⟨gl, rfl, _, _, hd, _⟩ := hrow.at_ j hjl
            rw [← hlv] at hd
            obtain ⟨LV, hLV⟩ : ∃ LV, lastV bs ps = LV := ⟨_, rfl⟩
            rw [hLV] at hd HBL2
            have c0 := blk_cell hgs 0
            have c1 := blk_cell hgs 1
            have s1 : IntKind.i64.wrap ((dc : Int) - 1) = (j : Int) := by rw [IntKind.wrap_i64]; omega
            have j1 : (j : Int) < (dc : Int) := by omega
            have hlvr := (okV_last HU1.out).2 (fun e => by rw [e] at hjl; simp at hjl)
            rw [hLV] at hlvr
            have HOP := Lib.hid hop
            have HROW := Lib.hid hrow
            have HJ := Lib.hid (And.intro hj (And.intro hjl hLV))
            have g10 := (HS.out.below hop.b).c10
            have HU3 := Lib.hid u3
            clear hop hgs hrow hlv hj hjl hLV u3
            by_cases hla : LV = la
            · have t1 : ((LV : Int) != la) = false := by simp [hla]
              have hbl := HBL2.out
              rw [if_neg (by simp [hla])] at hbl
              have HBL3 := Lib.hid hbl
              have hlar : -1 ≤ la ∧ la < 2147483647 := by omega
              have HLAR := Lib.hid hlar
              clear hbl hlvr hlar HBL2
              go_wp2
              go_quiet (fail)
              have hop := HOP.out.drewN nq
              have hrow : RowP (wc.drewN nq) w.heap.size (.slice (some ⟨gl, 0, none⟩) dc C7) ps vs := ⟨HROW.out.row, HROW.out.own, HROW.out.sep⟩
              generalize wc.drewN nq = w8 at hop hrow ⊢
              clear hd c0 c1 s1 j1 t1 HOP HROW g10 hla
              have HOP := Lib.hid hop
              have HROW := Lib.hid hrow
              clear hop hrow
              go_wp2
              obtain ⟨wo, rfl⟩ : ∃ wo : World, wo = wr := ⟨_, rfl⟩
              have hub := HU3.out
              go_loopw [5, 60] (fun s5 s60 wr => ∃ (i t2 : Nat), s5 = .int .i64 (t2 : Nat) ∧ s60 = .int .i64 (i : Nat) ∧ i ≤ dc ∧ t2 = tt + totalV (ps.take i) ∧ OpS w wr p (.slice ai ni ci) (.slice (some ⟨g, 0, none⟩) S.length sc) b n t S ∧ RowP wr w.heap.size (.slice (some ⟨gl, 0, none⟩) dc C7) ps vs) (fun _ s60 _ => dc - (intOf s60).toNat)
              case atStart => exact ⟨0, tt, rfl, rfl, Nat.zero_le _, by simp [totalV], HOP.out, HROW.out⟩
              case round =>
                clear HOP HROW
                obtain ⟨i, t2, rfl, rfl, hi, ht2, hop, hrow⟩ := hrel
                by_cases hlt2 : i < dc
                · have i3 : (i : Int) < (dc : Int) := by omega
                  have hil : i < ps.length := by have := HU3.out; omega
                  obtain ⟨g', e1, _, _, hd, hp, _⟩ := hrow.at_ i hil
                  injection e1 with e1
                  injection e1 with e1
                  subst e1
                  obtain ⟨Av, Cv, hv⟩ := own_slice (hrow.own i hil)
                  rw [intL_length] at hv
                  rw [hv] at hp
                  have htk := totalV_take ps i hil
                  have hts := totalV_split ps (i + 1)
                  obtain ⟨x, hx⟩ : ∃ x, ps[i] = x := ⟨_, rfl⟩
                  rw [hx] at hd hp htk
                  obtain ⟨doc, pos⟩ := x
                  simp only at hd hp htk
                  have htb : t2 + pos.length ≤ b.length := by omega
                  have hbA := (Below.refl wr.heap.size wr).alloc (Nat.le_refl _) (.cells #[.int .i64 doc, .slice Av pos.length Cv] 53)
                  have HOP2 := Lib.hid (hop.step hbA)
                  have HROW2 := Lib.hid (hrow.below hbA (Nat.le_refl _))
                  have HT2 := Lib.hid (show t2 + pos.length = tt + totalV (ps.take (i + 1)) by omega)
                  clear hop hrow hbA hv hx htk hts ht2
                  go_wp2
                  go_roundw
                  case rel => exact ⟨i + 1, t2 + pos.length, by go_num, by go_num, by omega, HT2.out, HOP2.out, HROW2.out⟩
                  case measure => simp [intOf]; omega
                · obtain rfl : i = dc := by omega
                  have i3 : ¬ ((i : Int) < (i : Int)) := by omega
                  rw [List.take_of_length_le (by have := HU3.out; omega)] at ht2
                  have HOP := Lib.hid hop
                  have HT := Lib.hid ht2
                  have hltk2 := lastS_take S k hlt
                  rw [HX.out] at hltk2
                  simp only at hltk2
                  have HLT2 := Lib.hid hltk2
                  clear hop hrow ht2 hltk2
                  go_wp2
                  go_roundw
                  case rel =>
                    refine ⟨k + 1, qk + sz, t2, R', done ++ [ps], rfl, by go_num, hlt, HPUT.out, by unfold sizesV; omega, fun s hs => HDC.out s (List.mem_cons_of_mem _ hs), ?_, by have := HT.out; omega, by rw [HLT2.out]; exact HLAR.out.1, by rw [HLT2.out]; exact HLAR.out.2, HOP.out, ?_⟩
                    · rw [List.flatten_append, totalV_append, htt, HT.out]; simp
                    · rw [HLT2.out, ← HBL3.out]
                      cases blkV b la (S.drop (k + 1)) with
                      | none => rfl
                      | some y => simp [contB]
                  case measure => simp [intOf]; omega
            · have t1 : ((LV : Int) != la) = true := by simp [hla]
              have hbl := HBL2.out
              rw [if_pos hla] at hbl
              have hno : openV b = none := by rw [HO.out, ← hbl]; rfl
              have HNO := Lib.hid hno
              clear hbl hno hla hlvr
              go_wp2
              go_quiet (fail)
              go_wp2
              go_quiet (fail)
              go_wp2
              go_ret2
              exact OpenPost.no HNO.out (below_drewN (below_drewN HOP.out.b _) _)
      · obtain rfl : k = S.length := by omega
        have i1 : ¬ ((S.length : Int) < (S.length : Int)) := by omega
        rw [List.drop_length, blkV] at hbl
        have hbl : some (done ++ []) = BLS := hbl
        rw [List.append_nil] at hbl
        have p2 : wr.cell? ⟨p, 2, none⟩ = some (.int .i64 (t : Nat)) := blk_cell hop.l.blk 2
        have g10 := (HS.out.below hop.b).c10
        have hfin : openV b = if totalV done.flatten = t then some ⟨n, t, S, done⟩ else none := by rw [HO.out, ← hbl]; rfl
        rw [htt] at hfin
        have HOP := Lib.hid hop
        have HFIN := Lib.hid hfin
        clear hop hbl hfin hput hsz hdc htt htq hla0 hla1 hlt hk
        by_cases hte : tt = t
        · subst hte
          have t1 : ((tt : Int) != (tt : Int)) = false := by simp
          have HYES := Lib.hid (show openV b = some ⟨n, tt, S, done⟩ by rw [HFIN.out, if_pos rfl])
          clear HFIN
          go_wp2
          go_ret2
          refine ⟨fun r hr => ?_, fun h => (by rw [HYES.out] at h; cases h), HOP.out.b⟩
          rw [HYES.out] at hr
          injection hr with hr
          subst hr
          exact ⟨_, _, _, rfl, HOP.out.l⟩
        · have t1 : ((tt : Int) != (t : Int)) = true := by simp; omega
          have HNO := Lib.hid (show openV b = none by rw [HFIN.out, if_neg hte])
          clear hte HFIN
          go_wp2
          go_quiet (fail)
          go_wp2
          go_ret2
          exact OpenPost.no HNO.out (below_drewN HOP.out.b _)
end Go.Proofs.YthnpbfadblcicaaDoor
