/- The walk of the document's row of a pattern. -/
import Derived.Test.YtejmjjgbbojfbaaDoorZG15
import Derived.Test.YtejmjjgbbojfbaaDoorZRefE
import Derived.BigRegion
import Derived.Deep.RegionHeld3
namespace Go.Proofs.YtejmjjgbbojfbaaDoor
set_option linter.unusedVariables false
open Go.ChangeShapes Go.WideShapes Go.ChangeAt Go.RowKit

def bv (l : List Bool) : List Value := l.map Value.bool
theorem bv_len (l : List Bool) : (bv l).length = l.length := by simp [bv]
theorem bv_get {l : List Bool} {i : Nat} (h : i < l.length) : (bv l)[i]? = some (.bool (l.getD i false)) := by
  unfold bv
  rw [List.getElem?_map, List.getElem?_eq_getElem h, List.getD_eq_getElem?_getD, List.getElem?_eq_getElem h]; rfl
theorem bv_set (l : List Bool) (i : Nat) (b : Bool) : (bv l).set i (.bool b) = bv (l.set i b) := by unfold bv; rw [List.map_set]
theorem bv_app (l r : List Bool) : bv l ++ bv r = bv (l ++ r) := by simp [bv]
theorem elBools : Elem Tryd.prog 51 4 (.bool false) 1 := ⟨Tryd.underlying51, by kernel_rfl, rfl, by decide⟩
theorem madeBool (n : Nat) : madeCells #[.bool false] n = (bv (List.replicate n false)).toArray := by
  refine Array.ext (by rw [size_madeCells]; simp [bv_len]) fun i h1 h2 => ?_
  simp [madeCells, bv, Nat.mod_one]
set_option maxRecDepth 100000 in
set_option maxHeartbeats 4000000 in
theorem row_any (w : World) (p s : ByteArray) (es : List PEl) (hes : elems p.data.toList = some es) (hp : p.size ≤ 1000000000) (hs : s.size ≤ 1000000000) (hel : es.length ≤ 1000000000) :
    Calls Tryd.prog 47 #[.string p, .string s] w fun e w' => ∃ v, e = .returned v ∧ Own w' w.heap.size 4 v (bv (outR es s.data.toList)) ∧ Below w.heap.size w w' := by
  obtain ⟨N, hN⟩ : ∃ N, N = s.size + 1 := ⟨_, rfl⟩
  have hsl : s.data.toList.length = s.size := Array.length_toList (xs := s.data)
  have HN := Lib.hid hN
  have HSL := Lib.hid hsl
  have q1 : (s.size : Int) + 1 = (N : Int) := by omega
  have q2 : (N : Int) ≤ 1000000001 := by omega
  have q3 : N ≤ 1000000000000 := by omega
  have q4 : 0 < N := by omega
  have C0 := relements_any w p (by omega)
  obtain ⟨S, hS⟩ : ∃ S, s.data.toList = S := ⟨_, rfl⟩
  have HS := Lib.hid hS
  rw [hS]
  have hmk := fun (w : World) => make_row elBools rfl N q3 (N : Int) rfl w
  have HES := Lib.hid hes
  clear hN hsl hS hes
  go_enter Tryd.func47, Tryd.ntmps47
  go_wp2_with fail
  refine C0.mono ?_
  rintro e w1 ⟨h1, _⟩
  obtain ⟨v0, rfl, hr0, hb1⟩ := h1 es HES.out
  obtain ⟨A0, c0, rfl⟩ := hr0.sl
  have hc0 : (w1.alloc (.cells (madeCells #[.bool false] N) 4)).cell? ⟨w1.heap.size, 0, none⟩ = some (.bool false) := by
    have h := heap_alloc_new w1 (.cells (madeCells #[.bool false] N) 4)
    rw [blk_cell h 0, madeBool]
    have := bv_get (l := List.replicate N false) (i := 0) (by simp; omega)
    rw [List.getD_eq_getElem?_getD, List.getElem?_replicate] at this
    simpa [q4] using this
  have HR0 := Lib.hid hr0.rd
  have HB1 := Lib.hid hb1
  clear C0 h1 hr0 hb1
  go_wp2
  go_loopw [7, 8, 31] (fun s7 s8 s31 wr => ∃ (i g : Nat) (A : Option Addr) (C : Nat), s31 = .int .i64 i ∧ i ≤ es.length ∧ s7 = .slice (some ⟨g, 0, none⟩) N N ∧ Own wr w1.heap.size 4 (.slice (some ⟨g, 0, none⟩) N N) (bv (tabR (es.take i) S)) ∧ s8 = .slice A (i + 1) C ∧ Own wr w1.heap.size 4 (.slice A (i + 1) C) (bv (outR (es.take i) S)) ∧ Below w1.heap.size w1 wr) (fun _ _ s31 _ => es.length - (intOf s31).toNat)
  case atStart =>
    have hSl : S.length + 1 = N := by rw [HN.out, ← HSL.out, HS.out]
    have e1 : (madeCells #[.bool false] N).setIfInBounds 0 (.bool true) = (bv ((List.replicate N false).set 0 true)).toArray := by
      rw [madeBool, List.setIfInBounds_toArray, bv_set]
    have o1 := own_lit w1 w1.heap.size 4 (bv ((List.replicate N false).set 0 true)) (Nat.le_refl _) (by rw [bv_len]; simp [maxLen]; omega)
    rw [bv_len, List.length_set, List.length_replicate] at o1
    have o2 := own_one (w1.alloc (.cells (bv ((List.replicate N false).set 0 true)).toArray 4)) w1.heap.size 4 (.bool ((s.size : Int) == 0)) (by simp)
    rw [show (w1.alloc (.cells (bv ((List.replicate N false).set 0 true)).toArray 4)).heap.size = w1.heap.size + 1 by simp] at o2
    rw [e1]
    have e2 : bv (outR (es.take 0) S) = [.bool ((s.size : Int) == 0)] := by
      have h : ((List.replicate (S.length + 1) false).set 0 true).getD S.length false = ((s.size : Int) == 0) := by
        have hz : S.length = s.size := by have := HN.out; omega
        by_cases h0 : S.length = 0
        · have hs0 : ((s.size : Int) == 0) = true := by rw [beq_iff_eq]; omega
          rw [hs0, getD_set, if_pos ⟨h0.symm, by simp⟩]
        · have hs0 : ((s.size : Int) == 0) = false := by rw [beq_eq_false_iff_ne]; omega
          rw [hs0, getD_set, if_neg (fun h => h0 h.1.symm), List.getD_eq_getElem?_getD, List.getElem?_replicate, if_pos (by omega)]; rfl
      unfold outR bv
      simp only [List.take_zero, List.length_nil]
      show [Value.bool (((List.replicate (S.length + 1) false).set 0 true).getD S.length false)] = _
      rw [h]
    refine ⟨0, w1.heap.size, _, _, rfl, Nat.zero_le _, rfl, ?_, rfl, by rw [e2]; exact o2, ((Below.refl _ _).alloc (Nat.le_refl _) _).alloc (by simp) _⟩
    rw [show tabR (es.take 0) S = (List.replicate (S.length + 1) false).set 0 true from rfl, hSl]
    exact o1.alloc _
  case round =>
    obtain ⟨i, g, A, C, rfl, hi, rfl, hat, rfl, hout, hb⟩ := hrel
    by_cases hlt : i < es.length
    · obtain ⟨A', c', hv, hg⟩ := HR0.out.below hb
      injection hv with e1 _ e3
      subst e1 e3
      obtain ⟨ge, rfl, hcs⟩ := hg (by omega)
      obtain ⟨d0, d1, d2⟩ := hcs i hlt
      obtain ⟨P, hP⟩ : ∃ P, tabR (es.take i) S = P := ⟨_, rfl⟩
      have hPl : P.length = N := by rw [← hP, tabR_len, HN.out, ← HSL.out, HS.out]
      have hnext := tabR_take (s := S) hlt
      have houts := outR_take (s := S) hlt
      rw [hP] at hat hnext houts
      obtain ⟨E, hE⟩ : ∃ E, es[i] = E := ⟨_, rfl⟩
      rw [hE] at d0 d1 d2 hnext houts
      obtain ⟨k0, hk0⟩ : ∃ k0, (E.1 == 2) = k0 := ⟨_, rfl⟩
      obtain ⟨k1, hk1⟩ : ∃ k1, (E.1 == 1) = k1 := ⟨_, rfl⟩
      obtain ⟨xe, hxe⟩ : ∃ xe : Int, ((E.2.toNat : Nat) : Int) = xe := ⟨_, rfl⟩
      rw [hk0] at d0
      rw [hk1] at d1
      rw [hxe] at d2
      have HHAT := Lib.hid hat
      have HHOUT := Lib.hid hout
      have HB := Lib.hid hb
      have HNEXT := Lib.hid hnext
      have HOUTS := Lib.hid houts
      have HE := Lib.hid hE
      have HK0 := Lib.hid hk0
      have HK1 := Lib.hid hk1
      have HXE := Lib.hid hxe
      have HP := Lib.hid hP
      have HPL := Lib.hid hPl
      clear hat hout hb hnext houts hE hk0 hk1 hxe hP hPl hcs hg hc0
      go_wp2
      -- INNER
      obtain ⟨wo, rfl⟩ : ∃ wo, wo = wr := ⟨_, rfl⟩
      go_loopw [12, 13] (fun s12 s13 wr => ∃ (j : Nat), s13 = .int .i64 j ∧ j ≤ N ∧ s12 = .bool ((P.take j).any id) ∧ Own wr (wo.heap.size + 1) 4 (.slice (some ⟨wo.heap.size + 1, 0, none⟩) N N) (bv (partR E S P j)) ∧ Below (wo.heap.size + 1) (wo.alloc (.cells #[.bool k0, .bool k1, .int .u8 xe] 129)) wr) (fun _ s13 _ => N - (intOf s13).toNat)
      case atStart =>
        refine ⟨0, rfl, Nat.zero_le _, by simp, ?_, (Below.refl _ _).alloc (by simp) _⟩
        have hz1 : (wo.alloc (.cells #[.bool k0, .bool k1, .int .u8 xe] 129)).heap.size = wo.heap.size + 1 := by simp
        have hSl : S.length + 1 = N := by rw [HN.out, ← HSL.out, HS.out]
        have h := own_lit (wo.alloc (.cells #[.bool k0, .bool k1, .int .u8 xe] 129)) (wo.heap.size + 1) 4 (bv (partR E S P 0)) (by rw [hz1]; exact Nat.le_refl _) (by rw [bv_len, partR_len, hSl]; simp [maxLen]; omega)
        rw [hz1, bv_len, partR_len, hSl, partR_zero, hSl, ← madeBool] at h
        rw [partR_zero, hSl]
        exact h
      case round =>
        obtain ⟨j, rfl, hj, rfl, hown, hbl⟩ := hrel
        have hSl : S.length + 1 = N := by rw [HN.out, ← HSL.out, HS.out]
        by_cases hjN : j < N
        · have hz1 : (wo.alloc (.cells #[.bool k0, .bool k1, .int .u8 xe] 129)).heap.size = wo.heap.size + 1 := by simp
          have hbx : Below wo.heap.size wo wr := ((Below.refl _ _).alloc (Nat.le_refl _) _).trans (hbl.mono (by omega))
          have hglt := (HHAT.out.lt g rfl).2
          have cg : ∀ k, k < N → wr.cell? ⟨g, k, none⟩ = some (.bool (P.getD k false)) := fun k hk => by rw [hbx.cell hglt]; exact HHAT.out.get (bv_get (by rw [HPL.out]; exact hk))
          have hbe := (hbl.block wo.heap.size (by omega)).trans (heap_alloc_new wo _)
          have f0 : wr.cell? ⟨wo.heap.size, 0, none⟩ = some (.bool k0) := blk_cell hbe 0
          have f1 : wr.cell? ⟨wo.heap.size, 1, none⟩ = some (.bool k1) := blk_cell hbe 1
          have f2 : wr.cell? ⟨wo.heap.size, 2, none⟩ = some (.int .u8 xe) := blk_cell hbe 2
          have cn := hown.get (bv_get (l := partR E S P j) (i := j) (by rw [partR_len, hSl]; exact hjN))
          have hfz := hown.frozen j
          have hset := hown.set j (.bool (stepR E S P j))
          rw [bv_set, partR_set] at hset
          have hbs := hbl.setCell (p := ⟨wo.heap.size + 1, j, none⟩) (Nat.le_refl _) (.bool (stepR E S P j))
          have hseen := any_takeR P j
          have cgj := cg j hjN
          obtain ⟨V, hV⟩ : ∃ V, stepR E S P j = V := ⟨_, rfl⟩
          obtain ⟨sn, hsn⟩ : ∃ sn, (P.take j).any id = sn := ⟨_, rfl⟩
          obtain ⟨pj, hpj⟩ : ∃ pj, P.getD j false = pj := ⟨_, rfl⟩
          obtain ⟨ov, hov⟩ : ∃ ov, (partR E S P j).getD j false = ov := ⟨_, rfl⟩
          rw [hV] at hset hbs
          rw [hsn, hpj] at hseen
          rw [hpj] at cgj
          rw [hov] at cn
          rw [hsn]
          have t1 : decide ((j : Int) ≤ (s.size : Int)) = true := decide_eq_true (by have := HN.out; omega)
          have hownD : Own wr.drew (wo.heap.size + 1) 4 (.slice (some ⟨wo.heap.size + 1, 0, none⟩) N N) (bv (partR E S P j)) := hown
          have hsetD := hownD.set j (.bool (stepR E S P j))
          rw [bv_set, partR_set, hV] at hsetD
          have hbsD := (below_drewN hbl 1).setCell (p := ⟨wo.heap.size + 1, j, none⟩) (Nat.le_refl _) (.bool V)
          have HSETD := Lib.hid hsetD
          have HBSD := Lib.hid hbsD
          have HSET := Lib.hid hset
          have HBS := Lib.hid hbs
          have HCG := Lib.hid cg
          have HSEEN := Lib.hid hseen
          have HVV := Lib.hid hV
          have HBLX := Lib.hid hbl
          have HSL2 := Lib.hid hSl
          clear hset hbs hsetD hbsD hownD cg hseen hV hbl hbx hbe hown hsn hpj hov hSl hz1
          cases k0 with
          | true =>
            have hv : V = (sn || pj) := by
              rw [← HVV.out, ← HSEEN.out]; unfold stepR
              rw [if_pos (by have := HK0.out; simpa using this)]
            subst hv
            cases sn
            · cases pj
              · go_wp2
                go_roundw
                case rel => exact ⟨j + 1, by go_num, by omega, by rw [HSEEN.out]; rfl, HSET.out, HBS.out⟩
                case measure => simp [intOf]; omega
              · go_wp2
                go_roundw
                case rel => exact ⟨j + 1, by go_num, by omega, by rw [HSEEN.out]; rfl, HSET.out, HBS.out⟩
                case measure => simp [intOf]; omega
            · go_wp2
              go_roundw
              case rel => exact ⟨j + 1, by go_num, by omega, by rw [HSEEN.out]; rfl, HSET.out, HBS.out⟩
              case measure => simp [intOf]; omega
          | false =>
            have hv : V = (decide (0 < j) && (P.getD (j - 1) false && (decide (E.1 = 1) || decide (S.getD (j - 1) 0 = E.2)))) := by
              rw [← HVV.out]; unfold stepR
              rw [if_neg (by have := HK0.out; simpa using this)]
            have hsl' : S = s.data.toList := HS.out.symm
            have HSS := Lib.hid hsl'
            have HVE := Lib.hid hv
            clear hv hsl'
            cases sn
            · by_cases hj0 : j = 0
              · subst hj0
                have hVV : V = false := by rw [HVE.out]; rfl
                subst hVV
                have c1 : wr.drew.cell? ⟨wo.heap.size + 1, 0, none⟩ = some (.bool ov) := cn
                have c2 : wr.drew.cell? ⟨wo.heap.size, 1, none⟩ = some (.bool k1) := f1
                have c3 : wr.drew.cell? ⟨wo.heap.size, 2, none⟩ = some (.int .u8 xe) := f2
                have c4 : wr.drew.frozen? ⟨wo.heap.size + 1, 0, none⟩ = false := hfz
                have t2 : decide ((0 : Int) < ((0 : Nat) : Int)) = false := rfl
                go_upto_region 16 with fail
                go_region
                all_goals
                  go_wp2
                  go_roundw
                  case rel => exact ⟨0 + 1, by go_num, by omega, by rw [HSEEN.out]; rfl, HSETD.out, HBSD.out⟩
                  case measure => simp [intOf]; omega
              · obtain ⟨q, rfl⟩ : ∃ q, j = q + 1 := ⟨j - 1, by omega⟩
                have hq : q < s.size := by have := HN.out; omega
                have hgd : S.getD q 0 = s[q]'hq := by
                  rw [HSS.out, List.getD_eq_getElem?_getD, List.getElem?_eq_getElem (by rw [Array.length_toList]; exact hq)]; rfl
                obtain ⟨pp, hpp⟩ : ∃ pp, P.getD q false = pp := ⟨_, rfl⟩
                obtain ⟨lt, hlt2⟩ : ∃ lt, (((s[q]'hq).toNat : Int) == xe) = lt := ⟨_, rfl⟩
                have hv2 : V = (pp && (k1 || lt)) := by
                  rw [HVE.out, Nat.add_sub_cancel, hpp, hgd, ← HK1.out, ← hlt2, ← HXE.out, show decide (0 < q + 1) = true from decide_eq_true (by omega), Bool.true_and,
                    show decide (s[q]'hq = E.2) = (((s[q]'hq).toNat : Int) == ((E.2.toNat : Nat) : Int)) from by rw [Bool.eq_iff_iff, decide_eq_true_iff, beq_iff_eq, Int.ofNat_inj, UInt8.toNat_inj]]
                  rfl
                have cq : wr.drew.cell? ⟨g, q, none⟩ = some (.bool pp) := by rw [← hpp]; exact HCG.out q (by omega)
                have HV2 := Lib.hid hv2
                have t2 : decide ((0 : Int) < (q : Int) + 1) = true := decide_eq_true (by omega)
                have q5 : IntKind.i64.wrap (q : Int) = (q : Int) := by rw [IntKind.wrap_i64]; omega
                have qa : (0 : Int) ≤ (q : Int) := by omega
                have qb : (q : Int) < (N : Int) := by omega
                have qc : q < N := by omega
                have qd : (0 : Int) ≤ (q : Int) + 1 := by omega
                have qe : (q : Int) + 1 < (N : Int) := by omega
                have qf : q + 1 < N := by omega
                have qg : (q : Int) < (s.size : Int) := by omega
                have q6 : IntKind.i64.wrap ((q : Int) + 1 - 1) = (q : Int) := by rw [IntKind.wrap_i64]; omega
                clear hgd hpp hv2 hj0
                cases pp
                · have hVV : V = false := by rw [HV2.out]; rfl
                  subst hVV
                  have c1 : wr.drew.cell? ⟨wo.heap.size + 1, q + 1, none⟩ = some (.bool ov) := cn
                  have c4 : wr.drew.frozen? ⟨wo.heap.size + 1, q + 1, none⟩ = false := hfz
                  have hS1 : wr.drew.cell? ⟨wo.heap.size, 1, none⟩ = some (.bool k1) ∧ wr.drew.cell? ⟨wo.heap.size, 2, none⟩ = some (.int .u8 xe) ∧ wr.drew.cell? ⟨g, q, none⟩ = some (.bool false) := ⟨f1, f2, cq⟩
                  have hS2 : (World.setCell wr.drew ⟨wo.heap.size + 1, q + 1, none⟩ (.bool false)).cell? ⟨wo.heap.size, 1, none⟩ = some (.bool k1) ∧ (World.setCell wr.drew ⟨wo.heap.size + 1, q + 1, none⟩ (.bool false)).cell? ⟨wo.heap.size, 2, none⟩ = some (.int .u8 xe) ∧ (World.setCell wr.drew ⟨wo.heap.size + 1, q + 1, none⟩ (.bool false)).cell? ⟨g, q, none⟩ = some (.bool false) := by
                    have hq2 := (Below.refl (wo.heap.size + 1) wr.drew).setCell (p := ⟨wo.heap.size + 1, q + 1, none⟩) (Nat.le_refl _) (.bool false)
                    exact ⟨by rw [hq2.cell (p := ⟨wo.heap.size, 1, none⟩) (Nat.lt_succ_self _)]; exact hS1.1, by rw [hq2.cell (p := ⟨wo.heap.size, 2, none⟩) (Nat.lt_succ_self _)]; exact hS1.2.1, by rw [hq2.cell (p := ⟨g, q, none⟩) (Nat.lt_succ_of_lt hglt)]; exact hS1.2.2⟩
                  have HS2 := Lib.hid hS2
                  clear hS2
                  clear hlt2
                  go_upto_region 16 with fail
                  refine wp_region_noPanic ?_
                  refine wp_region_held_drew (S := fun w' => w'.cell? ⟨wo.heap.size, 1, none⟩ = some (.bool k1) ∧ w'.cell? ⟨wo.heap.size, 2, none⟩ = some (.int .u8 xe) ∧ w'.cell? ⟨g, q, none⟩ = some (.bool false)) (by kernel_rfl) hS1 (fun hHeld => ?_)
                  clear hS1
                  refine wpAnyH_take (i := 0) (v := ?_) rfl (by kernel_rfl) (by kernel_rfl) (by kernel_rfl) (fun _ _ _ h => h) (Or.inl ⟨by kernel_rfl, ?_⟩) hHeld ?_
                  rotate_left
                  · intro w hSw; obtain ⟨y1, y2, y3⟩ := hSw; go_simp; try with_reducible rfl
                  refine wpAnyH_take (i := 1) (v := ?_) rfl (by kernel_rfl) (by kernel_rfl) (by kernel_rfl) (fun _ _ _ h => h) (Or.inl ⟨by kernel_rfl, ?_⟩) hHeld ?_
                  rotate_left
                  · intro w hSw; obtain ⟨y1, y2, y3⟩ := hSw; go_simp; try with_reducible rfl
                  refine wpAnyH_take (i := 2) (v := ?_) rfl (by kernel_rfl) (by kernel_rfl) (by kernel_rfl) (fun _ _ _ h => h) (Or.inl ⟨by kernel_rfl, ?_⟩) hHeld ?_
                  rotate_left
                  · intro w hSw; obtain ⟨y1, y2, y3⟩ := hSw; go_simp; try with_reducible rfl
                  refine wpAnyH_take (i := 3) (v := ?_) rfl (by kernel_rfl) (by kernel_rfl) (by kernel_rfl) (fun _ _ _ h => h) (Or.inl ⟨by kernel_rfl, ?_⟩) hHeld ?_
                  rotate_left
                  · intro w hSw; obtain ⟨y1, y2, y3⟩ := hSw; go_simp; try with_reducible rfl
                  refine wpAnyH_take (i := 4) (v := ?_) rfl (by kernel_rfl) (by kernel_rfl) (by kernel_rfl) (fun _ _ _ h => h) (Or.inl ⟨by kernel_rfl, ?_⟩) hHeld ?_
                  rotate_left
                  · intro w hSw; obtain ⟨y1, y2, y3⟩ := hSw; go_simp; try with_reducible rfl
                  refine wpAnyH_take (i := 5) (v := ?_) rfl (by kernel_rfl) (by kernel_rfl) (by kernel_rfl) (fun _ _ _ h => h) (Or.inl ⟨by kernel_rfl, ?_⟩) hHeld ?_
                  rotate_left
                  · intro w hSw; obtain ⟨y1, y2, y3⟩ := hSw; go_simp; try with_reducible rfl
                  refine wpAnyH_take (i := 6) (v := ?_) rfl (by kernel_rfl) (by kernel_rfl) (by kernel_rfl) (fun _ _ _ h => h) (Or.inl ⟨by kernel_rfl, ?_⟩) hHeld ?_
                  rotate_left
                  · intro w hSw; obtain ⟨y1, y2, y3⟩ := hSw; go_simp; try with_reducible rfl
                  refine wpAnyH_take (i := 7) (v := ?_) rfl (by kernel_rfl) (by kernel_rfl) (by kernel_rfl) (fun _ _ _ h => h) (Or.inl ⟨by kernel_rfl, ?_⟩) hHeld ?_
                  rotate_left
                  · intro w hSw; obtain ⟨y1, y2, y3⟩ := hSw; go_simp; try with_reducible rfl
                  refine wpAnyH_take (i := 8) (v := ?_) rfl (by kernel_rfl) (by kernel_rfl) (by kernel_rfl) (fun _ _ _ h => h) (Or.inl ⟨by kernel_rfl, ?_⟩) hHeld ?_
                  rotate_left
                  · intro w hSw; obtain ⟨y1, y2, y3⟩ := hSw; go_simp; try with_reducible rfl
                  refine wpAnyH_take (i := 9) (v := ?_) rfl (by kernel_rfl) (by kernel_rfl) (by kernel_rfl) (fun _ _ _ h => h) (Or.inl ⟨by kernel_rfl, ?_⟩) hHeld ?_
                  rotate_left
                  · intro w hSw; obtain ⟨y1, y2, y3⟩ := hSw; go_simp; try with_reducible rfl
                  refine wpAnyH_take (i := 10) (v := ?_) rfl (by kernel_rfl) (by kernel_rfl) (by kernel_rfl) (fun _ _ _ h => h) (Or.inl ⟨by kernel_rfl, ?_⟩) hHeld ?_
                  rotate_left
                  · intro w hSw; obtain ⟨y1, y2, y3⟩ := hSw; go_simp; try with_reducible rfl
                  refine wpAnyH_take (i := 11) (v := ?_) rfl (by kernel_rfl) (by kernel_rfl) (by kernel_rfl) (fun _ _ _ h => h) (Or.inl ⟨by kernel_rfl, ?_⟩) hHeld ?_
                  rotate_left
                  · intro w hSw; obtain ⟨y1, y2, y3⟩ := hSw; go_simp; try with_reducible rfl
                  refine wpAnyH_take (i := 12) (v := undef) rfl (by kernel_rfl) (by kernel_rfl) (by kernel_rfl) (fun _ _ _ h => h) (Or.inr ⟨by kernel_rfl, rfl⟩) hHeld ?_
                  refine wpAnyH_take (i := 13) (v := undef) rfl (by kernel_rfl) (by kernel_rfl) (by kernel_rfl) (fun _ _ _ h => h) (Or.inr ⟨by kernel_rfl, rfl⟩) hHeld ?_
                  refine wpAnyH_take (i := 14) (v := undef) rfl (by kernel_rfl) (by kernel_rfl) (by kernel_rfl) (fun _ _ _ h => h) (Or.inr ⟨by kernel_rfl, rfl⟩) hHeld ?_
                  refine wpAnyH_take (i := 15) (v := undef) rfl (by kernel_rfl) (by kernel_rfl) (by kernel_rfl) (fun _ _ _ h => h) (Or.inr ⟨by kernel_rfl, rfl⟩) hHeld ?_
                  refine wpAnyH_take (i := 16) (v := undef) rfl (by kernel_rfl) (by kernel_rfl) (by kernel_rfl) (fun _ _ _ h => h) (Or.inr ⟨by kernel_rfl, rfl⟩) hHeld ?_
                  refine wpAnyH_take (i := 17) (v := undef) rfl (by kernel_rfl) (by kernel_rfl) (by kernel_rfl) (fun _ _ _ h => h) (Or.inr ⟨by kernel_rfl, rfl⟩) hHeld ?_
                  refine wpAnyH_take (i := 18) (v := undef) rfl (by kernel_rfl) (by kernel_rfl) (by kernel_rfl) (fun _ _ _ h => h) (Or.inr ⟨by kernel_rfl, rfl⟩) hHeld ?_
                  refine wpAnyH_take (i := 19) (v := undef) rfl (by kernel_rfl) (by kernel_rfl) (by kernel_rfl) (fun _ _ _ h => h) (Or.inr ⟨by kernel_rfl, rfl⟩) hHeld ?_
                  refine wpAnyH_take (i := 20) (v := undef) rfl (by kernel_rfl) (by kernel_rfl) (by kernel_rfl) (fun _ _ _ h => h) (Or.inr ⟨by kernel_rfl, rfl⟩) hHeld ?_
                  refine wpAnyH_take (i := 21) (v := undef) rfl (by kernel_rfl) (by kernel_rfl) (by kernel_rfl) (fun _ _ _ h => h) (Or.inr ⟨by kernel_rfl, rfl⟩) hHeld ?_
                  refine wpAnyH_take (i := 22) (v := undef) rfl (by kernel_rfl) (by kernel_rfl) (by kernel_rfl) (fun _ _ _ h => h) (Or.inr ⟨by kernel_rfl, rfl⟩) hHeld ?_
                  refine wpAnyH_take (i := 23) (v := ?_) rfl (by kernel_rfl) (by kernel_rfl) (by kernel_rfl) (fun _ _ _ h => h) (Or.inl ⟨by kernel_rfl, ?_⟩) hHeld ?_
                  rotate_left
                  · intro w hSw; obtain ⟨y1, y2, y3⟩ := hSw; go_simp; try with_reducible rfl
                  refine wpAnyH_take (i := 24) (v := ?_) rfl (by kernel_rfl) (by kernel_rfl) (by kernel_rfl) (fun _ _ _ h => h) (Or.inl ⟨by kernel_rfl, ?_⟩) hHeld ?_
                  rotate_left
                  · intro w hSw; obtain ⟨y1, y2, y3⟩ := hSw; go_simp; try with_reducible rfl
                  clear hHeld
                  refine wpAnyH_ready (rs := [25]) (by kernel_rfl) (by simp) ?_
                  refine AllReadyH.cons rfl (fun KK hKK => ?_) ?_
                  · rw [if_pos (by kernel_rfl)]
                    go_simp
                    refine hKK.out _ _ HS2.out (fun _ => ?_)
                    clear hKK KK
                    refine wpAnyH_done (by kernel_rfl) ?_ _
                    refine NoPanic.normal ?_
                    go_wp2
                    go_roundw
                    case rel => exact ⟨(q + 1) + 1, by go_num, by omega, by rw [HSEEN.out]; rfl, HSETD.out, HBSD.out⟩
                    case measure => simp [intOf]; omega
                  exact AllReadyH.nil
                · cases k1
                  · cases lt
                    · have hVV : V = false := by rw [HV2.out]; rfl
                      subst hVV
                      have c1 : wr.drew.cell? ⟨wo.heap.size + 1, q + 1, none⟩ = some (.bool ov) := cn
                      have c4 : wr.drew.frozen? ⟨wo.heap.size + 1, q + 1, none⟩ = false := hfz
                      have hS1 : wr.drew.cell? ⟨wo.heap.size, 1, none⟩ = some (.bool false) ∧ wr.drew.cell? ⟨wo.heap.size, 2, none⟩ = some (.int .u8 xe) ∧ wr.drew.cell? ⟨g, q, none⟩ = some (.bool true) := ⟨f1, f2, cq⟩
                      have hS2 : (World.setCell wr.drew ⟨wo.heap.size + 1, q + 1, none⟩ (.bool false)).cell? ⟨wo.heap.size, 1, none⟩ = some (.bool false) ∧ (World.setCell wr.drew ⟨wo.heap.size + 1, q + 1, none⟩ (.bool false)).cell? ⟨wo.heap.size, 2, none⟩ = some (.int .u8 xe) ∧ (World.setCell wr.drew ⟨wo.heap.size + 1, q + 1, none⟩ (.bool false)).cell? ⟨g, q, none⟩ = some (.bool true) := by
                        have hq2 := (Below.refl (wo.heap.size + 1) wr.drew).setCell (p := ⟨wo.heap.size + 1, q + 1, none⟩) (Nat.le_refl _) (.bool false)
                        exact ⟨by rw [hq2.cell (p := ⟨wo.heap.size, 1, none⟩) (Nat.lt_succ_self _)]; exact hS1.1, by rw [hq2.cell (p := ⟨wo.heap.size, 2, none⟩) (Nat.lt_succ_self _)]; exact hS1.2.1, by rw [hq2.cell (p := ⟨g, q, none⟩) (Nat.lt_succ_of_lt hglt)]; exact hS1.2.2⟩
                      have HS2 := Lib.hid hS2
                      clear hS2
                      go_upto_region 16 with fail
                      refine wp_region_noPanic ?_
                      refine wp_region_held_drew (S := fun w' => w'.cell? ⟨wo.heap.size, 1, none⟩ = some (.bool false) ∧ w'.cell? ⟨wo.heap.size, 2, none⟩ = some (.int .u8 xe) ∧ w'.cell? ⟨g, q, none⟩ = some (.bool true)) (by kernel_rfl) hS1 (fun hHeld => ?_)
                      clear hS1
                      refine wpAnyH_take (i := 0) (v := ?_) rfl (by kernel_rfl) (by kernel_rfl) (by kernel_rfl) (fun _ _ _ h => h) (Or.inl ⟨by kernel_rfl, ?_⟩) hHeld ?_
                      rotate_left
                      · intro w hSw; obtain ⟨y1, y2, y3⟩ := hSw; go_simp; try with_reducible rfl
                      refine wpAnyH_take (i := 1) (v := ?_) rfl (by kernel_rfl) (by kernel_rfl) (by kernel_rfl) (fun _ _ _ h => h) (Or.inl ⟨by kernel_rfl, ?_⟩) hHeld ?_
                      rotate_left
                      · intro w hSw; obtain ⟨y1, y2, y3⟩ := hSw; go_simp; try with_reducible rfl
                      refine wpAnyH_take (i := 2) (v := ?_) rfl (by kernel_rfl) (by kernel_rfl) (by kernel_rfl) (fun _ _ _ h => h) (Or.inl ⟨by kernel_rfl, ?_⟩) hHeld ?_
                      rotate_left
                      · intro w hSw; obtain ⟨y1, y2, y3⟩ := hSw; go_simp; try with_reducible rfl
                      refine wpAnyH_take (i := 3) (v := ?_) rfl (by kernel_rfl) (by kernel_rfl) (by kernel_rfl) (fun _ _ _ h => h) (Or.inl ⟨by kernel_rfl, ?_⟩) hHeld ?_
                      rotate_left
                      · intro w hSw; obtain ⟨y1, y2, y3⟩ := hSw; go_simp; try with_reducible rfl
                      refine wpAnyH_take (i := 4) (v := ?_) rfl (by kernel_rfl) (by kernel_rfl) (by kernel_rfl) (fun _ _ _ h => h) (Or.inl ⟨by kernel_rfl, ?_⟩) hHeld ?_
                      rotate_left
                      · intro w hSw; obtain ⟨y1, y2, y3⟩ := hSw; go_simp; try with_reducible rfl
                      refine wpAnyH_take (i := 5) (v := ?_) rfl (by kernel_rfl) (by kernel_rfl) (by kernel_rfl) (fun _ _ _ h => h) (Or.inl ⟨by kernel_rfl, ?_⟩) hHeld ?_
                      rotate_left
                      · intro w hSw; obtain ⟨y1, y2, y3⟩ := hSw; go_simp; try with_reducible rfl
                      refine wpAnyH_take (i := 6) (v := ?_) rfl (by kernel_rfl) (by kernel_rfl) (by kernel_rfl) (fun _ _ _ h => h) (Or.inl ⟨by kernel_rfl, ?_⟩) hHeld ?_
                      rotate_left
                      · intro w hSw; obtain ⟨y1, y2, y3⟩ := hSw; go_simp; try with_reducible rfl
                      refine wpAnyH_take (i := 7) (v := ?_) rfl (by kernel_rfl) (by kernel_rfl) (by kernel_rfl) (fun _ _ _ h => h) (Or.inl ⟨by kernel_rfl, ?_⟩) hHeld ?_
                      rotate_left
                      · intro w hSw; obtain ⟨y1, y2, y3⟩ := hSw; go_simp; try with_reducible rfl
                      refine wpAnyH_take (i := 8) (v := ?_) rfl (by kernel_rfl) (by kernel_rfl) (by kernel_rfl) (fun _ _ _ h => h) (Or.inl ⟨by kernel_rfl, ?_⟩) hHeld ?_
                      rotate_left
                      · intro w hSw; obtain ⟨y1, y2, y3⟩ := hSw; go_simp; try with_reducible rfl
                      refine wpAnyH_take (i := 9) (v := ?_) rfl (by kernel_rfl) (by kernel_rfl) (by kernel_rfl) (fun _ _ _ h => h) (Or.inl ⟨by kernel_rfl, ?_⟩) hHeld ?_
                      rotate_left
                      · intro w hSw; obtain ⟨y1, y2, y3⟩ := hSw; go_simp; try with_reducible rfl
                      refine wpAnyH_take (i := 10) (v := ?_) rfl (by kernel_rfl) (by kernel_rfl) (by kernel_rfl) (fun _ _ _ h => h) (Or.inl ⟨by kernel_rfl, ?_⟩) hHeld ?_
                      rotate_left
                      · intro w hSw; obtain ⟨y1, y2, y3⟩ := hSw; go_simp; try with_reducible rfl
                      refine wpAnyH_take (i := 11) (v := ?_) rfl (by kernel_rfl) (by kernel_rfl) (by kernel_rfl) (fun _ _ _ h => h) (Or.inl ⟨by kernel_rfl, ?_⟩) hHeld ?_
                      rotate_left
                      · intro w hSw; obtain ⟨y1, y2, y3⟩ := hSw; go_simp; try with_reducible rfl
                      refine wpAnyH_take (i := 12) (v := ?_) rfl (by kernel_rfl) (by kernel_rfl) (by kernel_rfl) (fun _ _ _ h => h) (Or.inl ⟨by kernel_rfl, ?_⟩) hHeld ?_
                      rotate_left
                      · intro w hSw; obtain ⟨y1, y2, y3⟩ := hSw; go_simp; try with_reducible rfl
                      refine wpAnyH_take (i := 13) (v := ?_) rfl (by kernel_rfl) (by kernel_rfl) (by kernel_rfl) (fun _ _ _ h => h) (Or.inl ⟨by kernel_rfl, ?_⟩) hHeld ?_
                      rotate_left
                      · intro w hSw; obtain ⟨y1, y2, y3⟩ := hSw; go_simp; try with_reducible rfl
                      refine wpAnyH_take (i := 14) (v := ?_) rfl (by kernel_rfl) (by kernel_rfl) (by kernel_rfl) (fun _ _ _ h => h) (Or.inl ⟨by kernel_rfl, ?_⟩) hHeld ?_
                      rotate_left
                      · intro w hSw; obtain ⟨y1, y2, y3⟩ := hSw; go_simp; try with_reducible rfl
                      refine wpAnyH_take (i := 15) (v := ?_) rfl (by kernel_rfl) (by kernel_rfl) (by kernel_rfl) (fun _ _ _ h => h) (Or.inl ⟨by kernel_rfl, ?_⟩) hHeld ?_
                      rotate_left
                      · intro w hSw; obtain ⟨y1, y2, y3⟩ := hSw; go_simp; try with_reducible rfl
                      refine wpAnyH_take (i := 16) (v := ?_) rfl (by kernel_rfl) (by kernel_rfl) (by kernel_rfl) (fun _ _ _ h => h) (Or.inl ⟨by kernel_rfl, ?_⟩) hHeld ?_
                      rotate_left
                      · intro w hSw; obtain ⟨y1, y2, y3⟩ := hSw; go_simp; try with_reducible rfl
                      refine wpAnyH_take (i := 17) (v := ?_) rfl (by kernel_rfl) (by kernel_rfl) (by kernel_rfl) (fun _ _ _ h => h) (Or.inl ⟨by kernel_rfl, ?_⟩) hHeld ?_
                      rotate_left
                      · intro w hSw; obtain ⟨y1, y2, y3⟩ := hSw; go_simp; try with_reducible rfl
                      refine wpAnyH_take (i := 18) (v := ?_) rfl (by kernel_rfl) (by kernel_rfl) (by kernel_rfl) (fun _ _ _ h => h) (Or.inl ⟨by kernel_rfl, ?_⟩) hHeld ?_
                      rotate_left
                      · intro w hSw; obtain ⟨y1, y2, y3⟩ := hSw; go_simp; try with_reducible rfl
                      refine wpAnyH_take (i := 19) (v := ?_) rfl (by kernel_rfl) (by kernel_rfl) (by kernel_rfl) (fun _ _ _ h => h) (Or.inl ⟨by kernel_rfl, ?_⟩) hHeld ?_
                      rotate_left
                      · intro w hSw; obtain ⟨y1, y2, y3⟩ := hSw; go_simp; try with_reducible rfl
                      refine wpAnyH_take (i := 20) (v := ?_) rfl (by kernel_rfl) (by kernel_rfl) (by kernel_rfl) (fun _ _ _ h => h) (Or.inl ⟨by kernel_rfl, ?_⟩) hHeld ?_
                      rotate_left
                      · intro w hSw; obtain ⟨y1, y2, y3⟩ := hSw; go_simp; try with_reducible rfl
                      refine wpAnyH_take (i := 21) (v := ?_) rfl (by kernel_rfl) (by kernel_rfl) (by kernel_rfl) (fun _ _ _ h => h) (Or.inl ⟨by kernel_rfl, ?_⟩) hHeld ?_
                      rotate_left
                      · intro w hSw; obtain ⟨y1, y2, y3⟩ := hSw; go_simp; try with_reducible rfl
                      refine wpAnyH_take (i := 22) (v := ?_) rfl (by kernel_rfl) (by kernel_rfl) (by kernel_rfl) (fun _ _ _ h => h) (Or.inl ⟨by kernel_rfl, ?_⟩) hHeld ?_
                      rotate_left
                      · intro w hSw; obtain ⟨y1, y2, y3⟩ := hSw; go_simp; try with_reducible rfl
                      refine wpAnyH_take (i := 23) (v := ?_) rfl (by kernel_rfl) (by kernel_rfl) (by kernel_rfl) (fun _ _ _ h => h) (Or.inl ⟨by kernel_rfl, ?_⟩) hHeld ?_
                      rotate_left
                      · intro w hSw; obtain ⟨y1, y2, y3⟩ := hSw; go_simp; try with_reducible rfl
                      refine wpAnyH_take (i := 24) (v := ?_) rfl (by kernel_rfl) (by kernel_rfl) (by kernel_rfl) (fun _ _ _ h => h) (Or.inl ⟨by kernel_rfl, ?_⟩) hHeld ?_
                      rotate_left
                      · intro w hSw; obtain ⟨y1, y2, y3⟩ := hSw; go_simp; try with_reducible rfl
                      clear hHeld
                      refine wpAnyH_ready (rs := [25]) (by kernel_rfl) (by simp) ?_
                      refine AllReadyH.cons rfl (fun KK hKK => ?_) ?_
                      · rw [if_pos (by kernel_rfl)]
                        go_simp
                        refine hKK.out _ _ HS2.out (fun _ => ?_)
                        clear hKK KK
                        refine wpAnyH_done (by kernel_rfl) ?_ _
                        refine NoPanic.normal ?_
                        go_wp2
                        go_roundw
                        case rel => exact ⟨(q + 1) + 1, by go_num, by omega, by rw [HSEEN.out]; rfl, HSETD.out, HBSD.out⟩
                        case measure => simp [intOf]; omega
                      exact AllReadyH.nil
                    · have hVV : V = true := by rw [HV2.out]; rfl
                      subst hVV
                      have c1 : wr.drew.cell? ⟨wo.heap.size + 1, q + 1, none⟩ = some (.bool ov) := cn
                      have c4 : wr.drew.frozen? ⟨wo.heap.size + 1, q + 1, none⟩ = false := hfz
                      have hS1 : wr.drew.cell? ⟨wo.heap.size, 1, none⟩ = some (.bool false) ∧ wr.drew.cell? ⟨wo.heap.size, 2, none⟩ = some (.int .u8 xe) ∧ wr.drew.cell? ⟨g, q, none⟩ = some (.bool true) := ⟨f1, f2, cq⟩
                      have hS2 : (World.setCell wr.drew ⟨wo.heap.size + 1, q + 1, none⟩ (.bool true)).cell? ⟨wo.heap.size, 1, none⟩ = some (.bool false) ∧ (World.setCell wr.drew ⟨wo.heap.size + 1, q + 1, none⟩ (.bool true)).cell? ⟨wo.heap.size, 2, none⟩ = some (.int .u8 xe) ∧ (World.setCell wr.drew ⟨wo.heap.size + 1, q + 1, none⟩ (.bool true)).cell? ⟨g, q, none⟩ = some (.bool true) := by
                        have hq2 := (Below.refl (wo.heap.size + 1) wr.drew).setCell (p := ⟨wo.heap.size + 1, q + 1, none⟩) (Nat.le_refl _) (.bool true)
                        exact ⟨by rw [hq2.cell (p := ⟨wo.heap.size, 1, none⟩) (Nat.lt_succ_self _)]; exact hS1.1, by rw [hq2.cell (p := ⟨wo.heap.size, 2, none⟩) (Nat.lt_succ_self _)]; exact hS1.2.1, by rw [hq2.cell (p := ⟨g, q, none⟩) (Nat.lt_succ_of_lt hglt)]; exact hS1.2.2⟩
                      have HS2 := Lib.hid hS2
                      clear hS2
                      go_upto_region 16 with fail
                      refine wp_region_noPanic ?_
                      refine wp_region_held_drew (S := fun w' => w'.cell? ⟨wo.heap.size, 1, none⟩ = some (.bool false) ∧ w'.cell? ⟨wo.heap.size, 2, none⟩ = some (.int .u8 xe) ∧ w'.cell? ⟨g, q, none⟩ = some (.bool true)) (by kernel_rfl) hS1 (fun hHeld => ?_)
                      clear hS1
                      refine wpAnyH_take (i := 0) (v := ?_) rfl (by kernel_rfl) (by kernel_rfl) (by kernel_rfl) (fun _ _ _ h => h) (Or.inl ⟨by kernel_rfl, ?_⟩) hHeld ?_
                      rotate_left
                      · intro w hSw; obtain ⟨y1, y2, y3⟩ := hSw; go_simp; try with_reducible rfl
                      refine wpAnyH_take (i := 1) (v := ?_) rfl (by kernel_rfl) (by kernel_rfl) (by kernel_rfl) (fun _ _ _ h => h) (Or.inl ⟨by kernel_rfl, ?_⟩) hHeld ?_
                      rotate_left
                      · intro w hSw; obtain ⟨y1, y2, y3⟩ := hSw; go_simp; try with_reducible rfl
                      refine wpAnyH_take (i := 2) (v := ?_) rfl (by kernel_rfl) (by kernel_rfl) (by kernel_rfl) (fun _ _ _ h => h) (Or.inl ⟨by kernel_rfl, ?_⟩) hHeld ?_
                      rotate_left
                      · intro w hSw; obtain ⟨y1, y2, y3⟩ := hSw; go_simp; try with_reducible rfl
                      refine wpAnyH_take (i := 3) (v := ?_) rfl (by kernel_rfl) (by kernel_rfl) (by kernel_rfl) (fun _ _ _ h => h) (Or.inl ⟨by kernel_rfl, ?_⟩) hHeld ?_
                      rotate_left
                      · intro w hSw; obtain ⟨y1, y2, y3⟩ := hSw; go_simp; try with_reducible rfl
                      refine wpAnyH_take (i := 4) (v := ?_) rfl (by kernel_rfl) (by kernel_rfl) (by kernel_rfl) (fun _ _ _ h => h) (Or.inl ⟨by kernel_rfl, ?_⟩) hHeld ?_
                      rotate_left
                      · intro w hSw; obtain ⟨y1, y2, y3⟩ := hSw; go_simp; try with_reducible rfl
                      refine wpAnyH_take (i := 5) (v := ?_) rfl (by kernel_rfl) (by kernel_rfl) (by kernel_rfl) (fun _ _ _ h => h) (Or.inl ⟨by kernel_rfl, ?_⟩) hHeld ?_
                      rotate_left
                      · intro w hSw; obtain ⟨y1, y2, y3⟩ := hSw; go_simp; try with_reducible rfl
                      refine wpAnyH_take (i := 6) (v := ?_) rfl (by kernel_rfl) (by kernel_rfl) (by kernel_rfl) (fun _ _ _ h => h) (Or.inl ⟨by kernel_rfl, ?_⟩) hHeld ?_
                      rotate_left
                      · intro w hSw; obtain ⟨y1, y2, y3⟩ := hSw; go_simp; try with_reducible rfl
                      refine wpAnyH_take (i := 7) (v := ?_) rfl (by kernel_rfl) (by kernel_rfl) (by kernel_rfl) (fun _ _ _ h => h) (Or.inl ⟨by kernel_rfl, ?_⟩) hHeld ?_
                      rotate_left
                      · intro w hSw; obtain ⟨y1, y2, y3⟩ := hSw; go_simp; try with_reducible rfl
                      refine wpAnyH_take (i := 8) (v := ?_) rfl (by kernel_rfl) (by kernel_rfl) (by kernel_rfl) (fun _ _ _ h => h) (Or.inl ⟨by kernel_rfl, ?_⟩) hHeld ?_
                      rotate_left
                      · intro w hSw; obtain ⟨y1, y2, y3⟩ := hSw; go_simp; try with_reducible rfl
                      refine wpAnyH_take (i := 9) (v := ?_) rfl (by kernel_rfl) (by kernel_rfl) (by kernel_rfl) (fun _ _ _ h => h) (Or.inl ⟨by kernel_rfl, ?_⟩) hHeld ?_
                      rotate_left
                      · intro w hSw; obtain ⟨y1, y2, y3⟩ := hSw; go_simp; try with_reducible rfl
                      refine wpAnyH_take (i := 10) (v := ?_) rfl (by kernel_rfl) (by kernel_rfl) (by kernel_rfl) (fun _ _ _ h => h) (Or.inl ⟨by kernel_rfl, ?_⟩) hHeld ?_
                      rotate_left
                      · intro w hSw; obtain ⟨y1, y2, y3⟩ := hSw; go_simp; try with_reducible rfl
                      refine wpAnyH_take (i := 11) (v := ?_) rfl (by kernel_rfl) (by kernel_rfl) (by kernel_rfl) (fun _ _ _ h => h) (Or.inl ⟨by kernel_rfl, ?_⟩) hHeld ?_
                      rotate_left
                      · intro w hSw; obtain ⟨y1, y2, y3⟩ := hSw; go_simp; try with_reducible rfl
                      refine wpAnyH_take (i := 12) (v := ?_) rfl (by kernel_rfl) (by kernel_rfl) (by kernel_rfl) (fun _ _ _ h => h) (Or.inl ⟨by kernel_rfl, ?_⟩) hHeld ?_
                      rotate_left
                      · intro w hSw; obtain ⟨y1, y2, y3⟩ := hSw; go_simp; try with_reducible rfl
                      refine wpAnyH_take (i := 13) (v := ?_) rfl (by kernel_rfl) (by kernel_rfl) (by kernel_rfl) (fun _ _ _ h => h) (Or.inl ⟨by kernel_rfl, ?_⟩) hHeld ?_
                      rotate_left
                      · intro w hSw; obtain ⟨y1, y2, y3⟩ := hSw; go_simp; try with_reducible rfl
                      refine wpAnyH_take (i := 14) (v := ?_) rfl (by kernel_rfl) (by kernel_rfl) (by kernel_rfl) (fun _ _ _ h => h) (Or.inl ⟨by kernel_rfl, ?_⟩) hHeld ?_
                      rotate_left
                      · intro w hSw; obtain ⟨y1, y2, y3⟩ := hSw; go_simp; try with_reducible rfl
                      refine wpAnyH_take (i := 15) (v := ?_) rfl (by kernel_rfl) (by kernel_rfl) (by kernel_rfl) (fun _ _ _ h => h) (Or.inl ⟨by kernel_rfl, ?_⟩) hHeld ?_
                      rotate_left
                      · intro w hSw; obtain ⟨y1, y2, y3⟩ := hSw; go_simp; try with_reducible rfl
                      refine wpAnyH_take (i := 16) (v := ?_) rfl (by kernel_rfl) (by kernel_rfl) (by kernel_rfl) (fun _ _ _ h => h) (Or.inl ⟨by kernel_rfl, ?_⟩) hHeld ?_
                      rotate_left
                      · intro w hSw; obtain ⟨y1, y2, y3⟩ := hSw; go_simp; try with_reducible rfl
                      refine wpAnyH_take (i := 17) (v := ?_) rfl (by kernel_rfl) (by kernel_rfl) (by kernel_rfl) (fun _ _ _ h => h) (Or.inl ⟨by kernel_rfl, ?_⟩) hHeld ?_
                      rotate_left
                      · intro w hSw; obtain ⟨y1, y2, y3⟩ := hSw; go_simp; try with_reducible rfl
                      refine wpAnyH_take (i := 18) (v := ?_) rfl (by kernel_rfl) (by kernel_rfl) (by kernel_rfl) (fun _ _ _ h => h) (Or.inl ⟨by kernel_rfl, ?_⟩) hHeld ?_
                      rotate_left
                      · intro w hSw; obtain ⟨y1, y2, y3⟩ := hSw; go_simp; try with_reducible rfl
                      refine wpAnyH_take (i := 19) (v := ?_) rfl (by kernel_rfl) (by kernel_rfl) (by kernel_rfl) (fun _ _ _ h => h) (Or.inl ⟨by kernel_rfl, ?_⟩) hHeld ?_
                      rotate_left
                      · intro w hSw; obtain ⟨y1, y2, y3⟩ := hSw; go_simp; try with_reducible rfl
                      refine wpAnyH_take (i := 20) (v := ?_) rfl (by kernel_rfl) (by kernel_rfl) (by kernel_rfl) (fun _ _ _ h => h) (Or.inl ⟨by kernel_rfl, ?_⟩) hHeld ?_
                      rotate_left
                      · intro w hSw; obtain ⟨y1, y2, y3⟩ := hSw; go_simp; try with_reducible rfl
                      refine wpAnyH_take (i := 21) (v := ?_) rfl (by kernel_rfl) (by kernel_rfl) (by kernel_rfl) (fun _ _ _ h => h) (Or.inl ⟨by kernel_rfl, ?_⟩) hHeld ?_
                      rotate_left
                      · intro w hSw; obtain ⟨y1, y2, y3⟩ := hSw; go_simp; try with_reducible rfl
                      refine wpAnyH_take (i := 22) (v := ?_) rfl (by kernel_rfl) (by kernel_rfl) (by kernel_rfl) (fun _ _ _ h => h) (Or.inl ⟨by kernel_rfl, ?_⟩) hHeld ?_
                      rotate_left
                      · intro w hSw; obtain ⟨y1, y2, y3⟩ := hSw; go_simp; try with_reducible rfl
                      refine wpAnyH_take (i := 23) (v := ?_) rfl (by kernel_rfl) (by kernel_rfl) (by kernel_rfl) (fun _ _ _ h => h) (Or.inl ⟨by kernel_rfl, ?_⟩) hHeld ?_
                      rotate_left
                      · intro w hSw; obtain ⟨y1, y2, y3⟩ := hSw; go_simp; try with_reducible rfl
                      refine wpAnyH_take (i := 24) (v := ?_) rfl (by kernel_rfl) (by kernel_rfl) (by kernel_rfl) (fun _ _ _ h => h) (Or.inl ⟨by kernel_rfl, ?_⟩) hHeld ?_
                      rotate_left
                      · intro w hSw; obtain ⟨y1, y2, y3⟩ := hSw; go_simp; try with_reducible rfl
                      clear hHeld
                      refine wpAnyH_ready (rs := [25]) (by kernel_rfl) (by simp) ?_
                      refine AllReadyH.cons rfl (fun KK hKK => ?_) ?_
                      · rw [if_pos (by kernel_rfl)]
                        go_simp
                        refine hKK.out _ _ HS2.out (fun _ => ?_)
                        clear hKK KK
                        refine wpAnyH_done (by kernel_rfl) ?_ _
                        refine NoPanic.normal ?_
                        go_wp2
                        go_roundw
                        case rel => exact ⟨(q + 1) + 1, by go_num, by omega, by rw [HSEEN.out]; rfl, HSETD.out, HBSD.out⟩
                        case measure => simp [intOf]; omega
                      exact AllReadyH.nil
                  · have hVV : V = true := by rw [HV2.out]; rfl
                    subst hVV
                    have c1 : wr.drew.cell? ⟨wo.heap.size + 1, q + 1, none⟩ = some (.bool ov) := cn
                    have c4 : wr.drew.frozen? ⟨wo.heap.size + 1, q + 1, none⟩ = false := hfz
                    have hS1 : wr.drew.cell? ⟨wo.heap.size, 1, none⟩ = some (.bool true) ∧ wr.drew.cell? ⟨wo.heap.size, 2, none⟩ = some (.int .u8 xe) ∧ wr.drew.cell? ⟨g, q, none⟩ = some (.bool true) := ⟨f1, f2, cq⟩
                    have hS2 : (World.setCell wr.drew ⟨wo.heap.size + 1, q + 1, none⟩ (.bool true)).cell? ⟨wo.heap.size, 1, none⟩ = some (.bool true) ∧ (World.setCell wr.drew ⟨wo.heap.size + 1, q + 1, none⟩ (.bool true)).cell? ⟨wo.heap.size, 2, none⟩ = some (.int .u8 xe) ∧ (World.setCell wr.drew ⟨wo.heap.size + 1, q + 1, none⟩ (.bool true)).cell? ⟨g, q, none⟩ = some (.bool true) := by
                      have hq2 := (Below.refl (wo.heap.size + 1) wr.drew).setCell (p := ⟨wo.heap.size + 1, q + 1, none⟩) (Nat.le_refl _) (.bool true)
                      exact ⟨by rw [hq2.cell (p := ⟨wo.heap.size, 1, none⟩) (Nat.lt_succ_self _)]; exact hS1.1, by rw [hq2.cell (p := ⟨wo.heap.size, 2, none⟩) (Nat.lt_succ_self _)]; exact hS1.2.1, by rw [hq2.cell (p := ⟨g, q, none⟩) (Nat.lt_succ_of_lt hglt)]; exact hS1.2.2⟩
                    have HS2 := Lib.hid hS2
                    clear hS2
                    clear hlt2
                    go_upto_region 16 with fail
                    refine wp_region_noPanic ?_
                    refine wp_region_held_drew (S := fun w' => w'.cell? ⟨wo.heap.size, 1, none⟩ = some (.bool true) ∧ w'.cell? ⟨wo.heap.size, 2, none⟩ = some (.int .u8 xe) ∧ w'.cell? ⟨g, q, none⟩ = some (.bool true)) (by kernel_rfl) hS1 (fun hHeld => ?_)
                    clear hS1
                    refine wpAnyH_take (i := 0) (v := ?_) rfl (by kernel_rfl) (by kernel_rfl) (by kernel_rfl) (fun _ _ _ h => h) (Or.inl ⟨by kernel_rfl, ?_⟩) hHeld ?_
                    rotate_left
                    · intro w hSw; obtain ⟨y1, y2, y3⟩ := hSw; go_simp; try with_reducible rfl
                    refine wpAnyH_take (i := 1) (v := ?_) rfl (by kernel_rfl) (by kernel_rfl) (by kernel_rfl) (fun _ _ _ h => h) (Or.inl ⟨by kernel_rfl, ?_⟩) hHeld ?_
                    rotate_left
                    · intro w hSw; obtain ⟨y1, y2, y3⟩ := hSw; go_simp; try with_reducible rfl
                    refine wpAnyH_take (i := 2) (v := ?_) rfl (by kernel_rfl) (by kernel_rfl) (by kernel_rfl) (fun _ _ _ h => h) (Or.inl ⟨by kernel_rfl, ?_⟩) hHeld ?_
                    rotate_left
                    · intro w hSw; obtain ⟨y1, y2, y3⟩ := hSw; go_simp; try with_reducible rfl
                    refine wpAnyH_take (i := 3) (v := ?_) rfl (by kernel_rfl) (by kernel_rfl) (by kernel_rfl) (fun _ _ _ h => h) (Or.inl ⟨by kernel_rfl, ?_⟩) hHeld ?_
                    rotate_left
                    · intro w hSw; obtain ⟨y1, y2, y3⟩ := hSw; go_simp; try with_reducible rfl
                    refine wpAnyH_take (i := 4) (v := ?_) rfl (by kernel_rfl) (by kernel_rfl) (by kernel_rfl) (fun _ _ _ h => h) (Or.inl ⟨by kernel_rfl, ?_⟩) hHeld ?_
                    rotate_left
                    · intro w hSw; obtain ⟨y1, y2, y3⟩ := hSw; go_simp; try with_reducible rfl
                    refine wpAnyH_take (i := 5) (v := ?_) rfl (by kernel_rfl) (by kernel_rfl) (by kernel_rfl) (fun _ _ _ h => h) (Or.inl ⟨by kernel_rfl, ?_⟩) hHeld ?_
                    rotate_left
                    · intro w hSw; obtain ⟨y1, y2, y3⟩ := hSw; go_simp; try with_reducible rfl
                    refine wpAnyH_take (i := 6) (v := ?_) rfl (by kernel_rfl) (by kernel_rfl) (by kernel_rfl) (fun _ _ _ h => h) (Or.inl ⟨by kernel_rfl, ?_⟩) hHeld ?_
                    rotate_left
                    · intro w hSw; obtain ⟨y1, y2, y3⟩ := hSw; go_simp; try with_reducible rfl
                    refine wpAnyH_take (i := 7) (v := ?_) rfl (by kernel_rfl) (by kernel_rfl) (by kernel_rfl) (fun _ _ _ h => h) (Or.inl ⟨by kernel_rfl, ?_⟩) hHeld ?_
                    rotate_left
                    · intro w hSw; obtain ⟨y1, y2, y3⟩ := hSw; go_simp; try with_reducible rfl
                    refine wpAnyH_take (i := 8) (v := ?_) rfl (by kernel_rfl) (by kernel_rfl) (by kernel_rfl) (fun _ _ _ h => h) (Or.inl ⟨by kernel_rfl, ?_⟩) hHeld ?_
                    rotate_left
                    · intro w hSw; obtain ⟨y1, y2, y3⟩ := hSw; go_simp; try with_reducible rfl
                    refine wpAnyH_take (i := 9) (v := ?_) rfl (by kernel_rfl) (by kernel_rfl) (by kernel_rfl) (fun _ _ _ h => h) (Or.inl ⟨by kernel_rfl, ?_⟩) hHeld ?_
                    rotate_left
                    · intro w hSw; obtain ⟨y1, y2, y3⟩ := hSw; go_simp; try with_reducible rfl
                    refine wpAnyH_take (i := 10) (v := ?_) rfl (by kernel_rfl) (by kernel_rfl) (by kernel_rfl) (fun _ _ _ h => h) (Or.inl ⟨by kernel_rfl, ?_⟩) hHeld ?_
                    rotate_left
                    · intro w hSw; obtain ⟨y1, y2, y3⟩ := hSw; go_simp; try with_reducible rfl
                    refine wpAnyH_take (i := 11) (v := ?_) rfl (by kernel_rfl) (by kernel_rfl) (by kernel_rfl) (fun _ _ _ h => h) (Or.inl ⟨by kernel_rfl, ?_⟩) hHeld ?_
                    rotate_left
                    · intro w hSw; obtain ⟨y1, y2, y3⟩ := hSw; go_simp; try with_reducible rfl
                    refine wpAnyH_take (i := 12) (v := ?_) rfl (by kernel_rfl) (by kernel_rfl) (by kernel_rfl) (fun _ _ _ h => h) (Or.inl ⟨by kernel_rfl, ?_⟩) hHeld ?_
                    rotate_left
                    · intro w hSw; obtain ⟨y1, y2, y3⟩ := hSw; go_simp; try with_reducible rfl
                    refine wpAnyH_take (i := 13) (v := ?_) rfl (by kernel_rfl) (by kernel_rfl) (by kernel_rfl) (fun _ _ _ h => h) (Or.inl ⟨by kernel_rfl, ?_⟩) hHeld ?_
                    rotate_left
                    · intro w hSw; obtain ⟨y1, y2, y3⟩ := hSw; go_simp; try with_reducible rfl
                    refine wpAnyH_take (i := 14) (v := ?_) rfl (by kernel_rfl) (by kernel_rfl) (by kernel_rfl) (fun _ _ _ h => h) (Or.inl ⟨by kernel_rfl, ?_⟩) hHeld ?_
                    rotate_left
                    · intro w hSw; obtain ⟨y1, y2, y3⟩ := hSw; go_simp; try with_reducible rfl
                    refine wpAnyH_take (i := 15) (v := undef) rfl (by kernel_rfl) (by kernel_rfl) (by kernel_rfl) (fun _ _ _ h => h) (Or.inr ⟨by kernel_rfl, rfl⟩) hHeld ?_
                    refine wpAnyH_take (i := 16) (v := undef) rfl (by kernel_rfl) (by kernel_rfl) (by kernel_rfl) (fun _ _ _ h => h) (Or.inr ⟨by kernel_rfl, rfl⟩) hHeld ?_
                    refine wpAnyH_take (i := 17) (v := undef) rfl (by kernel_rfl) (by kernel_rfl) (by kernel_rfl) (fun _ _ _ h => h) (Or.inr ⟨by kernel_rfl, rfl⟩) hHeld ?_
                    refine wpAnyH_take (i := 18) (v := undef) rfl (by kernel_rfl) (by kernel_rfl) (by kernel_rfl) (fun _ _ _ h => h) (Or.inr ⟨by kernel_rfl, rfl⟩) hHeld ?_
                    refine wpAnyH_take (i := 19) (v := undef) rfl (by kernel_rfl) (by kernel_rfl) (by kernel_rfl) (fun _ _ _ h => h) (Or.inr ⟨by kernel_rfl, rfl⟩) hHeld ?_
                    refine wpAnyH_take (i := 20) (v := undef) rfl (by kernel_rfl) (by kernel_rfl) (by kernel_rfl) (fun _ _ _ h => h) (Or.inr ⟨by kernel_rfl, rfl⟩) hHeld ?_
                    refine wpAnyH_take (i := 21) (v := undef) rfl (by kernel_rfl) (by kernel_rfl) (by kernel_rfl) (fun _ _ _ h => h) (Or.inr ⟨by kernel_rfl, rfl⟩) hHeld ?_
                    refine wpAnyH_take (i := 22) (v := ?_) rfl (by kernel_rfl) (by kernel_rfl) (by kernel_rfl) (fun _ _ _ h => h) (Or.inl ⟨by kernel_rfl, ?_⟩) hHeld ?_
                    rotate_left
                    · intro w hSw; obtain ⟨y1, y2, y3⟩ := hSw; go_simp; try with_reducible rfl
                    refine wpAnyH_take (i := 23) (v := ?_) rfl (by kernel_rfl) (by kernel_rfl) (by kernel_rfl) (fun _ _ _ h => h) (Or.inl ⟨by kernel_rfl, ?_⟩) hHeld ?_
                    rotate_left
                    · intro w hSw; obtain ⟨y1, y2, y3⟩ := hSw; go_simp; try with_reducible rfl
                    refine wpAnyH_take (i := 24) (v := ?_) rfl (by kernel_rfl) (by kernel_rfl) (by kernel_rfl) (fun _ _ _ h => h) (Or.inl ⟨by kernel_rfl, ?_⟩) hHeld ?_
                    rotate_left
                    · intro w hSw; obtain ⟨y1, y2, y3⟩ := hSw; go_simp; try with_reducible rfl
                    clear hHeld
                    refine wpAnyH_ready (rs := [25]) (by kernel_rfl) (by simp) ?_
                    refine AllReadyH.cons rfl (fun KK hKK => ?_) ?_
                    · rw [if_pos (by kernel_rfl)]
                      go_simp
                      refine hKK.out _ _ HS2.out (fun _ => ?_)
                      clear hKK KK
                      refine wpAnyH_done (by kernel_rfl) ?_ _
                      refine NoPanic.normal ?_
                      go_wp2
                      go_roundw
                      case rel => exact ⟨(q + 1) + 1, by go_num, by omega, by rw [HSEEN.out]; rfl, HSETD.out, HBSD.out⟩
                      case measure => simp [intOf]; omega
                    exact AllReadyH.nil
            · by_cases hj0 : j = 0
              · subst hj0
                have hVV : V = false := by rw [HVE.out]; rfl
                subst hVV
                have c1 : wr.drew.cell? ⟨wo.heap.size + 1, 0, none⟩ = some (.bool ov) := cn
                have c2 : wr.drew.cell? ⟨wo.heap.size, 1, none⟩ = some (.bool k1) := f1
                have c3 : wr.drew.cell? ⟨wo.heap.size, 2, none⟩ = some (.int .u8 xe) := f2
                have c4 : wr.drew.frozen? ⟨wo.heap.size + 1, 0, none⟩ = false := hfz
                have t2 : decide ((0 : Int) < ((0 : Nat) : Int)) = false := rfl
                go_upto_region 16 with fail
                go_region
                all_goals
                  go_wp2
                  go_roundw
                  case rel => exact ⟨0 + 1, by go_num, by omega, by rw [HSEEN.out]; rfl, HSETD.out, HBSD.out⟩
                  case measure => simp [intOf]; omega
              · obtain ⟨q, rfl⟩ : ∃ q, j = q + 1 := ⟨j - 1, by omega⟩
                have hq : q < s.size := by have := HN.out; omega
                have hgd : S.getD q 0 = s[q]'hq := by
                  rw [HSS.out, List.getD_eq_getElem?_getD, List.getElem?_eq_getElem (by rw [Array.length_toList]; exact hq)]; rfl
                obtain ⟨pp, hpp⟩ : ∃ pp, P.getD q false = pp := ⟨_, rfl⟩
                obtain ⟨lt, hlt2⟩ : ∃ lt, (((s[q]'hq).toNat : Int) == xe) = lt := ⟨_, rfl⟩
                have hv2 : V = (pp && (k1 || lt)) := by
                  rw [HVE.out, Nat.add_sub_cancel, hpp, hgd, ← HK1.out, ← hlt2, ← HXE.out, show decide (0 < q + 1) = true from decide_eq_true (by omega), Bool.true_and,
                    show decide (s[q]'hq = E.2) = (((s[q]'hq).toNat : Int) == ((E.2.toNat : Nat) : Int)) from by rw [Bool.eq_iff_iff, decide_eq_true_iff, beq_iff_eq, Int.ofNat_inj, UInt8.toNat_inj]]
                  rfl
                have cq : wr.drew.cell? ⟨g, q, none⟩ = some (.bool pp) := by rw [← hpp]; exact HCG.out q (by omega)
                have HV2 := Lib.hid hv2
                have t2 : decide ((0 : Int) < (q : Int) + 1) = true := decide_eq_true (by omega)
                have q5 : IntKind.i64.wrap (q : Int) = (q : Int) := by rw [IntKind.wrap_i64]; omega
                have qa : (0 : Int) ≤ (q : Int) := by omega
                have qb : (q : Int) < (N : Int) := by omega
                have qc : q < N := by omega
                have qd : (0 : Int) ≤ (q : Int) + 1 := by omega
                have qe : (q : Int) + 1 < (N : Int) := by omega
                have qf : q + 1 < N := by omega
                have qg : (q : Int) < (s.size : Int) := by omega
                have q6 : IntKind.i64.wrap ((q : Int) + 1 - 1) = (q : Int) := by rw [IntKind.wrap_i64]; omega
                clear hgd hpp hv2 hj0
                cases pp
                · have hVV : V = false := by rw [HV2.out]; rfl
                  subst hVV
                  have c1 : wr.drew.cell? ⟨wo.heap.size + 1, q + 1, none⟩ = some (.bool ov) := cn
                  have c4 : wr.drew.frozen? ⟨wo.heap.size + 1, q + 1, none⟩ = false := hfz
                  have hS1 : wr.drew.cell? ⟨wo.heap.size, 1, none⟩ = some (.bool k1) ∧ wr.drew.cell? ⟨wo.heap.size, 2, none⟩ = some (.int .u8 xe) ∧ wr.drew.cell? ⟨g, q, none⟩ = some (.bool false) := ⟨f1, f2, cq⟩
                  have hS2 : (World.setCell wr.drew ⟨wo.heap.size + 1, q + 1, none⟩ (.bool false)).cell? ⟨wo.heap.size, 1, none⟩ = some (.bool k1) ∧ (World.setCell wr.drew ⟨wo.heap.size + 1, q + 1, none⟩ (.bool false)).cell? ⟨wo.heap.size, 2, none⟩ = some (.int .u8 xe) ∧ (World.setCell wr.drew ⟨wo.heap.size + 1, q + 1, none⟩ (.bool false)).cell? ⟨g, q, none⟩ = some (.bool false) := by
                    have hq2 := (Below.refl (wo.heap.size + 1) wr.drew).setCell (p := ⟨wo.heap.size + 1, q + 1, none⟩) (Nat.le_refl _) (.bool false)
                    exact ⟨by rw [hq2.cell (p := ⟨wo.heap.size, 1, none⟩) (Nat.lt_succ_self _)]; exact hS1.1, by rw [hq2.cell (p := ⟨wo.heap.size, 2, none⟩) (Nat.lt_succ_self _)]; exact hS1.2.1, by rw [hq2.cell (p := ⟨g, q, none⟩) (Nat.lt_succ_of_lt hglt)]; exact hS1.2.2⟩
                  have HS2 := Lib.hid hS2
                  clear hS2
                  clear hlt2
                  go_upto_region 16 with fail
                  refine wp_region_noPanic ?_
                  refine wp_region_held_drew (S := fun w' => w'.cell? ⟨wo.heap.size, 1, none⟩ = some (.bool k1) ∧ w'.cell? ⟨wo.heap.size, 2, none⟩ = some (.int .u8 xe) ∧ w'.cell? ⟨g, q, none⟩ = some (.bool false)) (by kernel_rfl) hS1 (fun hHeld => ?_)
                  clear hS1
                  refine wpAnyH_take (i := 0) (v := ?_) rfl (by kernel_rfl) (by kernel_rfl) (by kernel_rfl) (fun _ _ _ h => h) (Or.inl ⟨by kernel_rfl, ?_⟩) hHeld ?_
                  rotate_left
                  · intro w hSw; obtain ⟨y1, y2, y3⟩ := hSw; go_simp; try with_reducible rfl
                  refine wpAnyH_take (i := 1) (v := ?_) rfl (by kernel_rfl) (by kernel_rfl) (by kernel_rfl) (fun _ _ _ h => h) (Or.inl ⟨by kernel_rfl, ?_⟩) hHeld ?_
                  rotate_left
                  · intro w hSw; obtain ⟨y1, y2, y3⟩ := hSw; go_simp; try with_reducible rfl
                  refine wpAnyH_take (i := 2) (v := ?_) rfl (by kernel_rfl) (by kernel_rfl) (by kernel_rfl) (fun _ _ _ h => h) (Or.inl ⟨by kernel_rfl, ?_⟩) hHeld ?_
                  rotate_left
                  · intro w hSw; obtain ⟨y1, y2, y3⟩ := hSw; go_simp; try with_reducible rfl
                  refine wpAnyH_take (i := 3) (v := ?_) rfl (by kernel_rfl) (by kernel_rfl) (by kernel_rfl) (fun _ _ _ h => h) (Or.inl ⟨by kernel_rfl, ?_⟩) hHeld ?_
                  rotate_left
                  · intro w hSw; obtain ⟨y1, y2, y3⟩ := hSw; go_simp; try with_reducible rfl
                  refine wpAnyH_take (i := 4) (v := ?_) rfl (by kernel_rfl) (by kernel_rfl) (by kernel_rfl) (fun _ _ _ h => h) (Or.inl ⟨by kernel_rfl, ?_⟩) hHeld ?_
                  rotate_left
                  · intro w hSw; obtain ⟨y1, y2, y3⟩ := hSw; go_simp; try with_reducible rfl
                  refine wpAnyH_take (i := 5) (v := ?_) rfl (by kernel_rfl) (by kernel_rfl) (by kernel_rfl) (fun _ _ _ h => h) (Or.inl ⟨by kernel_rfl, ?_⟩) hHeld ?_
                  rotate_left
                  · intro w hSw; obtain ⟨y1, y2, y3⟩ := hSw; go_simp; try with_reducible rfl
                  refine wpAnyH_take (i := 6) (v := ?_) rfl (by kernel_rfl) (by kernel_rfl) (by kernel_rfl) (fun _ _ _ h => h) (Or.inl ⟨by kernel_rfl, ?_⟩) hHeld ?_
                  rotate_left
                  · intro w hSw; obtain ⟨y1, y2, y3⟩ := hSw; go_simp; try with_reducible rfl
                  refine wpAnyH_take (i := 7) (v := ?_) rfl (by kernel_rfl) (by kernel_rfl) (by kernel_rfl) (fun _ _ _ h => h) (Or.inl ⟨by kernel_rfl, ?_⟩) hHeld ?_
                  rotate_left
                  · intro w hSw; obtain ⟨y1, y2, y3⟩ := hSw; go_simp; try with_reducible rfl
                  refine wpAnyH_take (i := 8) (v := ?_) rfl (by kernel_rfl) (by kernel_rfl) (by kernel_rfl) (fun _ _ _ h => h) (Or.inl ⟨by kernel_rfl, ?_⟩) hHeld ?_
                  rotate_left
                  · intro w hSw; obtain ⟨y1, y2, y3⟩ := hSw; go_simp; try with_reducible rfl
                  refine wpAnyH_take (i := 9) (v := ?_) rfl (by kernel_rfl) (by kernel_rfl) (by kernel_rfl) (fun _ _ _ h => h) (Or.inl ⟨by kernel_rfl, ?_⟩) hHeld ?_
                  rotate_left
                  · intro w hSw; obtain ⟨y1, y2, y3⟩ := hSw; go_simp; try with_reducible rfl
                  refine wpAnyH_take (i := 10) (v := ?_) rfl (by kernel_rfl) (by kernel_rfl) (by kernel_rfl) (fun _ _ _ h => h) (Or.inl ⟨by kernel_rfl, ?_⟩) hHeld ?_
                  rotate_left
                  · intro w hSw; obtain ⟨y1, y2, y3⟩ := hSw; go_simp; try with_reducible rfl
                  refine wpAnyH_take (i := 11) (v := ?_) rfl (by kernel_rfl) (by kernel_rfl) (by kernel_rfl) (fun _ _ _ h => h) (Or.inl ⟨by kernel_rfl, ?_⟩) hHeld ?_
                  rotate_left
                  · intro w hSw; obtain ⟨y1, y2, y3⟩ := hSw; go_simp; try with_reducible rfl
                  refine wpAnyH_take (i := 12) (v := undef) rfl (by kernel_rfl) (by kernel_rfl) (by kernel_rfl) (fun _ _ _ h => h) (Or.inr ⟨by kernel_rfl, rfl⟩) hHeld ?_
                  refine wpAnyH_take (i := 13) (v := undef) rfl (by kernel_rfl) (by kernel_rfl) (by kernel_rfl) (fun _ _ _ h => h) (Or.inr ⟨by kernel_rfl, rfl⟩) hHeld ?_
                  refine wpAnyH_take (i := 14) (v := undef) rfl (by kernel_rfl) (by kernel_rfl) (by kernel_rfl) (fun _ _ _ h => h) (Or.inr ⟨by kernel_rfl, rfl⟩) hHeld ?_
                  refine wpAnyH_take (i := 15) (v := undef) rfl (by kernel_rfl) (by kernel_rfl) (by kernel_rfl) (fun _ _ _ h => h) (Or.inr ⟨by kernel_rfl, rfl⟩) hHeld ?_
                  refine wpAnyH_take (i := 16) (v := undef) rfl (by kernel_rfl) (by kernel_rfl) (by kernel_rfl) (fun _ _ _ h => h) (Or.inr ⟨by kernel_rfl, rfl⟩) hHeld ?_
                  refine wpAnyH_take (i := 17) (v := undef) rfl (by kernel_rfl) (by kernel_rfl) (by kernel_rfl) (fun _ _ _ h => h) (Or.inr ⟨by kernel_rfl, rfl⟩) hHeld ?_
                  refine wpAnyH_take (i := 18) (v := undef) rfl (by kernel_rfl) (by kernel_rfl) (by kernel_rfl) (fun _ _ _ h => h) (Or.inr ⟨by kernel_rfl, rfl⟩) hHeld ?_
                  refine wpAnyH_take (i := 19) (v := undef) rfl (by kernel_rfl) (by kernel_rfl) (by kernel_rfl) (fun _ _ _ h => h) (Or.inr ⟨by kernel_rfl, rfl⟩) hHeld ?_
                  refine wpAnyH_take (i := 20) (v := undef) rfl (by kernel_rfl) (by kernel_rfl) (by kernel_rfl) (fun _ _ _ h => h) (Or.inr ⟨by kernel_rfl, rfl⟩) hHeld ?_
                  refine wpAnyH_take (i := 21) (v := undef) rfl (by kernel_rfl) (by kernel_rfl) (by kernel_rfl) (fun _ _ _ h => h) (Or.inr ⟨by kernel_rfl, rfl⟩) hHeld ?_
                  refine wpAnyH_take (i := 22) (v := undef) rfl (by kernel_rfl) (by kernel_rfl) (by kernel_rfl) (fun _ _ _ h => h) (Or.inr ⟨by kernel_rfl, rfl⟩) hHeld ?_
                  refine wpAnyH_take (i := 23) (v := ?_) rfl (by kernel_rfl) (by kernel_rfl) (by kernel_rfl) (fun _ _ _ h => h) (Or.inl ⟨by kernel_rfl, ?_⟩) hHeld ?_
                  rotate_left
                  · intro w hSw; obtain ⟨y1, y2, y3⟩ := hSw; go_simp; try with_reducible rfl
                  refine wpAnyH_take (i := 24) (v := ?_) rfl (by kernel_rfl) (by kernel_rfl) (by kernel_rfl) (fun _ _ _ h => h) (Or.inl ⟨by kernel_rfl, ?_⟩) hHeld ?_
                  rotate_left
                  · intro w hSw; obtain ⟨y1, y2, y3⟩ := hSw; go_simp; try with_reducible rfl
                  clear hHeld
                  refine wpAnyH_ready (rs := [25]) (by kernel_rfl) (by simp) ?_
                  refine AllReadyH.cons rfl (fun KK hKK => ?_) ?_
                  · rw [if_pos (by kernel_rfl)]
                    go_simp
                    refine hKK.out _ _ HS2.out (fun _ => ?_)
                    clear hKK KK
                    refine wpAnyH_done (by kernel_rfl) ?_ _
                    refine NoPanic.normal ?_
                    go_wp2
                    go_roundw
                    case rel => exact ⟨(q + 1) + 1, by go_num, by omega, by rw [HSEEN.out]; rfl, HSETD.out, HBSD.out⟩
                    case measure => simp [intOf]; omega
                  exact AllReadyH.nil
                · cases k1
                  · cases lt
                    · have hVV : V = false := by rw [HV2.out]; rfl
                      subst hVV
                      have c1 : wr.drew.cell? ⟨wo.heap.size + 1, q + 1, none⟩ = some (.bool ov) := cn
                      have c4 : wr.drew.frozen? ⟨wo.heap.size + 1, q + 1, none⟩ = false := hfz
                      have hS1 : wr.drew.cell? ⟨wo.heap.size, 1, none⟩ = some (.bool false) ∧ wr.drew.cell? ⟨wo.heap.size, 2, none⟩ = some (.int .u8 xe) ∧ wr.drew.cell? ⟨g, q, none⟩ = some (.bool true) := ⟨f1, f2, cq⟩
                      have hS2 : (World.setCell wr.drew ⟨wo.heap.size + 1, q + 1, none⟩ (.bool false)).cell? ⟨wo.heap.size, 1, none⟩ = some (.bool false) ∧ (World.setCell wr.drew ⟨wo.heap.size + 1, q + 1, none⟩ (.bool false)).cell? ⟨wo.heap.size, 2, none⟩ = some (.int .u8 xe) ∧ (World.setCell wr.drew ⟨wo.heap.size + 1, q + 1, none⟩ (.bool false)).cell? ⟨g, q, none⟩ = some (.bool true) := by
                        have hq2 := (Below.refl (wo.heap.size + 1) wr.drew).setCell (p := ⟨wo.heap.size + 1, q + 1, none⟩) (Nat.le_refl _) (.bool false)
                        exact ⟨by rw [hq2.cell (p := ⟨wo.heap.size, 1, none⟩) (Nat.lt_succ_self _)]; exact hS1.1, by rw [hq2.cell (p := ⟨wo.heap.size, 2, none⟩) (Nat.lt_succ_self _)]; exact hS1.2.1, by rw [hq2.cell (p := ⟨g, q, none⟩) (Nat.lt_succ_of_lt hglt)]; exact hS1.2.2⟩
                      have HS2 := Lib.hid hS2
                      clear hS2
                      go_upto_region 16 with fail
                      refine wp_region_noPanic ?_
                      refine wp_region_held_drew (S := fun w' => w'.cell? ⟨wo.heap.size, 1, none⟩ = some (.bool false) ∧ w'.cell? ⟨wo.heap.size, 2, none⟩ = some (.int .u8 xe) ∧ w'.cell? ⟨g, q, none⟩ = some (.bool true)) (by kernel_rfl) hS1 (fun hHeld => ?_)
                      clear hS1
                      refine wpAnyH_take (i := 0) (v := ?_) rfl (by kernel_rfl) (by kernel_rfl) (by kernel_rfl) (fun _ _ _ h => h) (Or.inl ⟨by kernel_rfl, ?_⟩) hHeld ?_
                      rotate_left
                      · intro w hSw; obtain ⟨y1, y2, y3⟩ := hSw; go_simp; try with_reducible rfl
                      refine wpAnyH_take (i := 1) (v := ?_) rfl (by kernel_rfl) (by kernel_rfl) (by kernel_rfl) (fun _ _ _ h => h) (Or.inl ⟨by kernel_rfl, ?_⟩) hHeld ?_
                      rotate_left
                      · intro w hSw; obtain ⟨y1, y2, y3⟩ := hSw; go_simp; try with_reducible rfl
                      refine wpAnyH_take (i := 2) (v := ?_) rfl (by kernel_rfl) (by kernel_rfl) (by kernel_rfl) (fun _ _ _ h => h) (Or.inl ⟨by kernel_rfl, ?_⟩) hHeld ?_
                      rotate_left
                      · intro w hSw; obtain ⟨y1, y2, y3⟩ := hSw; go_simp; try with_reducible rfl
                      refine wpAnyH_take (i := 3) (v := ?_) rfl (by kernel_rfl) (by kernel_rfl) (by kernel_rfl) (fun _ _ _ h => h) (Or.inl ⟨by kernel_rfl, ?_⟩) hHeld ?_
                      rotate_left
                      · intro w hSw; obtain ⟨y1, y2, y3⟩ := hSw; go_simp; try with_reducible rfl
                      refine wpAnyH_take (i := 4) (v := ?_) rfl (by kernel_rfl) (by kernel_rfl) (by kernel_rfl) (fun _ _ _ h => h) (Or.inl ⟨by kernel_rfl, ?_⟩) hHeld ?_
                      rotate_left
                      · intro w hSw; obtain ⟨y1, y2, y3⟩ := hSw; go_simp; try with_reducible rfl
                      refine wpAnyH_take (i := 5) (v := ?_) rfl (by kernel_rfl) (by kernel_rfl) (by kernel_rfl) (fun _ _ _ h => h) (Or.inl ⟨by kernel_rfl, ?_⟩) hHeld ?_
                      rotate_left
                      · intro w hSw; obtain ⟨y1, y2, y3⟩ := hSw; go_simp; try with_reducible rfl
                      refine wpAnyH_take (i := 6) (v := ?_) rfl (by kernel_rfl) (by kernel_rfl) (by kernel_rfl) (fun _ _ _ h => h) (Or.inl ⟨by kernel_rfl, ?_⟩) hHeld ?_
                      rotate_left
                      · intro w hSw; obtain ⟨y1, y2, y3⟩ := hSw; go_simp; try with_reducible rfl
                      refine wpAnyH_take (i := 7) (v := ?_) rfl (by kernel_rfl) (by kernel_rfl) (by kernel_rfl) (fun _ _ _ h => h) (Or.inl ⟨by kernel_rfl, ?_⟩) hHeld ?_
                      rotate_left
                      · intro w hSw; obtain ⟨y1, y2, y3⟩ := hSw; go_simp; try with_reducible rfl
                      refine wpAnyH_take (i := 8) (v := ?_) rfl (by kernel_rfl) (by kernel_rfl) (by kernel_rfl) (fun _ _ _ h => h) (Or.inl ⟨by kernel_rfl, ?_⟩) hHeld ?_
                      rotate_left
                      · intro w hSw; obtain ⟨y1, y2, y3⟩ := hSw; go_simp; try with_reducible rfl
                      refine wpAnyH_take (i := 9) (v := ?_) rfl (by kernel_rfl) (by kernel_rfl) (by kernel_rfl) (fun _ _ _ h => h) (Or.inl ⟨by kernel_rfl, ?_⟩) hHeld ?_
                      rotate_left
                      · intro w hSw; obtain ⟨y1, y2, y3⟩ := hSw; go_simp; try with_reducible rfl
                      refine wpAnyH_take (i := 10) (v := ?_) rfl (by kernel_rfl) (by kernel_rfl) (by kernel_rfl) (fun _ _ _ h => h) (Or.inl ⟨by kernel_rfl, ?_⟩) hHeld ?_
                      rotate_left
                      · intro w hSw; obtain ⟨y1, y2, y3⟩ := hSw; go_simp; try with_reducible rfl
                      refine wpAnyH_take (i := 11) (v := ?_) rfl (by kernel_rfl) (by kernel_rfl) (by kernel_rfl) (fun _ _ _ h => h) (Or.inl ⟨by kernel_rfl, ?_⟩) hHeld ?_
                      rotate_left
                      · intro w hSw; obtain ⟨y1, y2, y3⟩ := hSw; go_simp; try with_reducible rfl
                      refine wpAnyH_take (i := 12) (v := ?_) rfl (by kernel_rfl) (by kernel_rfl) (by kernel_rfl) (fun _ _ _ h => h) (Or.inl ⟨by kernel_rfl, ?_⟩) hHeld ?_
                      rotate_left
                      · intro w hSw; obtain ⟨y1, y2, y3⟩ := hSw; go_simp; try with_reducible rfl
                      refine wpAnyH_take (i := 13) (v := ?_) rfl (by kernel_rfl) (by kernel_rfl) (by kernel_rfl) (fun _ _ _ h => h) (Or.inl ⟨by kernel_rfl, ?_⟩) hHeld ?_
                      rotate_left
                      · intro w hSw; obtain ⟨y1, y2, y3⟩ := hSw; go_simp; try with_reducible rfl
                      refine wpAnyH_take (i := 14) (v := ?_) rfl (by kernel_rfl) (by kernel_rfl) (by kernel_rfl) (fun _ _ _ h => h) (Or.inl ⟨by kernel_rfl, ?_⟩) hHeld ?_
                      rotate_left
                      · intro w hSw; obtain ⟨y1, y2, y3⟩ := hSw; go_simp; try with_reducible rfl
                      refine wpAnyH_take (i := 15) (v := ?_) rfl (by kernel_rfl) (by kernel_rfl) (by kernel_rfl) (fun _ _ _ h => h) (Or.inl ⟨by kernel_rfl, ?_⟩) hHeld ?_
                      rotate_left
                      · intro w hSw; obtain ⟨y1, y2, y3⟩ := hSw; go_simp; try with_reducible rfl
                      refine wpAnyH_take (i := 16) (v := ?_) rfl (by kernel_rfl) (by kernel_rfl) (by kernel_rfl) (fun _ _ _ h => h) (Or.inl ⟨by kernel_rfl, ?_⟩) hHeld ?_
                      rotate_left
                      · intro w hSw; obtain ⟨y1, y2, y3⟩ := hSw; go_simp; try with_reducible rfl
                      refine wpAnyH_take (i := 17) (v := ?_) rfl (by kernel_rfl) (by kernel_rfl) (by kernel_rfl) (fun _ _ _ h => h) (Or.inl ⟨by kernel_rfl, ?_⟩) hHeld ?_
                      rotate_left
                      · intro w hSw; obtain ⟨y1, y2, y3⟩ := hSw; go_simp; try with_reducible rfl
                      refine wpAnyH_take (i := 18) (v := ?_) rfl (by kernel_rfl) (by kernel_rfl) (by kernel_rfl) (fun _ _ _ h => h) (Or.inl ⟨by kernel_rfl, ?_⟩) hHeld ?_
                      rotate_left
                      · intro w hSw; obtain ⟨y1, y2, y3⟩ := hSw; go_simp; try with_reducible rfl
                      refine wpAnyH_take (i := 19) (v := ?_) rfl (by kernel_rfl) (by kernel_rfl) (by kernel_rfl) (fun _ _ _ h => h) (Or.inl ⟨by kernel_rfl, ?_⟩) hHeld ?_
                      rotate_left
                      · intro w hSw; obtain ⟨y1, y2, y3⟩ := hSw; go_simp; try with_reducible rfl
                      refine wpAnyH_take (i := 20) (v := ?_) rfl (by kernel_rfl) (by kernel_rfl) (by kernel_rfl) (fun _ _ _ h => h) (Or.inl ⟨by kernel_rfl, ?_⟩) hHeld ?_
                      rotate_left
                      · intro w hSw; obtain ⟨y1, y2, y3⟩ := hSw; go_simp; try with_reducible rfl
                      refine wpAnyH_take (i := 21) (v := ?_) rfl (by kernel_rfl) (by kernel_rfl) (by kernel_rfl) (fun _ _ _ h => h) (Or.inl ⟨by kernel_rfl, ?_⟩) hHeld ?_
                      rotate_left
                      · intro w hSw; obtain ⟨y1, y2, y3⟩ := hSw; go_simp; try with_reducible rfl
                      refine wpAnyH_take (i := 22) (v := ?_) rfl (by kernel_rfl) (by kernel_rfl) (by kernel_rfl) (fun _ _ _ h => h) (Or.inl ⟨by kernel_rfl, ?_⟩) hHeld ?_
                      rotate_left
                      · intro w hSw; obtain ⟨y1, y2, y3⟩ := hSw; go_simp; try with_reducible rfl
                      refine wpAnyH_take (i := 23) (v := ?_) rfl (by kernel_rfl) (by kernel_rfl) (by kernel_rfl) (fun _ _ _ h => h) (Or.inl ⟨by kernel_rfl, ?_⟩) hHeld ?_
                      rotate_left
                      · intro w hSw; obtain ⟨y1, y2, y3⟩ := hSw; go_simp; try with_reducible rfl
                      refine wpAnyH_take (i := 24) (v := ?_) rfl (by kernel_rfl) (by kernel_rfl) (by kernel_rfl) (fun _ _ _ h => h) (Or.inl ⟨by kernel_rfl, ?_⟩) hHeld ?_
                      rotate_left
                      · intro w hSw; obtain ⟨y1, y2, y3⟩ := hSw; go_simp; try with_reducible rfl
                      clear hHeld
                      refine wpAnyH_ready (rs := [25]) (by kernel_rfl) (by simp) ?_
                      refine AllReadyH.cons rfl (fun KK hKK => ?_) ?_
                      · rw [if_pos (by kernel_rfl)]
                        go_simp
                        refine hKK.out _ _ HS2.out (fun _ => ?_)
                        clear hKK KK
                        refine wpAnyH_done (by kernel_rfl) ?_ _
                        refine NoPanic.normal ?_
                        go_wp2
                        go_roundw
                        case rel => exact ⟨(q + 1) + 1, by go_num, by omega, by rw [HSEEN.out]; rfl, HSETD.out, HBSD.out⟩
                        case measure => simp [intOf]; omega
                      exact AllReadyH.nil
                    · have hVV : V = true := by rw [HV2.out]; rfl
                      subst hVV
                      have c1 : wr.drew.cell? ⟨wo.heap.size + 1, q + 1, none⟩ = some (.bool ov) := cn
                      have c4 : wr.drew.frozen? ⟨wo.heap.size + 1, q + 1, none⟩ = false := hfz
                      have hS1 : wr.drew.cell? ⟨wo.heap.size, 1, none⟩ = some (.bool false) ∧ wr.drew.cell? ⟨wo.heap.size, 2, none⟩ = some (.int .u8 xe) ∧ wr.drew.cell? ⟨g, q, none⟩ = some (.bool true) := ⟨f1, f2, cq⟩
                      have hS2 : (World.setCell wr.drew ⟨wo.heap.size + 1, q + 1, none⟩ (.bool true)).cell? ⟨wo.heap.size, 1, none⟩ = some (.bool false) ∧ (World.setCell wr.drew ⟨wo.heap.size + 1, q + 1, none⟩ (.bool true)).cell? ⟨wo.heap.size, 2, none⟩ = some (.int .u8 xe) ∧ (World.setCell wr.drew ⟨wo.heap.size + 1, q + 1, none⟩ (.bool true)).cell? ⟨g, q, none⟩ = some (.bool true) := by
                        have hq2 := (Below.refl (wo.heap.size + 1) wr.drew).setCell (p := ⟨wo.heap.size + 1, q + 1, none⟩) (Nat.le_refl _) (.bool true)
                        exact ⟨by rw [hq2.cell (p := ⟨wo.heap.size, 1, none⟩) (Nat.lt_succ_self _)]; exact hS1.1, by rw [hq2.cell (p := ⟨wo.heap.size, 2, none⟩) (Nat.lt_succ_self _)]; exact hS1.2.1, by rw [hq2.cell (p := ⟨g, q, none⟩) (Nat.lt_succ_of_lt hglt)]; exact hS1.2.2⟩
                      have HS2 := Lib.hid hS2
                      clear hS2
                      go_upto_region 16 with fail
                      refine wp_region_noPanic ?_
                      refine wp_region_held_drew (S := fun w' => w'.cell? ⟨wo.heap.size, 1, none⟩ = some (.bool false) ∧ w'.cell? ⟨wo.heap.size, 2, none⟩ = some (.int .u8 xe) ∧ w'.cell? ⟨g, q, none⟩ = some (.bool true)) (by kernel_rfl) hS1 (fun hHeld => ?_)
                      clear hS1
                      refine wpAnyH_take (i := 0) (v := ?_) rfl (by kernel_rfl) (by kernel_rfl) (by kernel_rfl) (fun _ _ _ h => h) (Or.inl ⟨by kernel_rfl, ?_⟩) hHeld ?_
                      rotate_left
                      · intro w hSw; obtain ⟨y1, y2, y3⟩ := hSw; go_simp; try with_reducible rfl
                      refine wpAnyH_take (i := 1) (v := ?_) rfl (by kernel_rfl) (by kernel_rfl) (by kernel_rfl) (fun _ _ _ h => h) (Or.inl ⟨by kernel_rfl, ?_⟩) hHeld ?_
                      rotate_left
                      · intro w hSw; obtain ⟨y1, y2, y3⟩ := hSw; go_simp; try with_reducible rfl
                      refine wpAnyH_take (i := 2) (v := ?_) rfl (by kernel_rfl) (by kernel_rfl) (by kernel_rfl) (fun _ _ _ h => h) (Or.inl ⟨by kernel_rfl, ?_⟩) hHeld ?_
                      rotate_left
                      · intro w hSw; obtain ⟨y1, y2, y3⟩ := hSw; go_simp; try with_reducible rfl
                      refine wpAnyH_take (i := 3) (v := ?_) rfl (by kernel_rfl) (by kernel_rfl) (by kernel_rfl) (fun _ _ _ h => h) (Or.inl ⟨by kernel_rfl, ?_⟩) hHeld ?_
                      rotate_left
                      · intro w hSw; obtain ⟨y1, y2, y3⟩ := hSw; go_simp; try with_reducible rfl
                      refine wpAnyH_take (i := 4) (v := ?_) rfl (by kernel_rfl) (by kernel_rfl) (by kernel_rfl) (fun _ _ _ h => h) (Or.inl ⟨by kernel_rfl, ?_⟩) hHeld ?_
                      rotate_left
                      · intro w hSw; obtain ⟨y1, y2, y3⟩ := hSw; go_simp; try with_reducible rfl
                      refine wpAnyH_take (i := 5) (v := ?_) rfl (by kernel_rfl) (by kernel_rfl) (by kernel_rfl) (fun _ _ _ h => h) (Or.inl ⟨by kernel_rfl, ?_⟩) hHeld ?_
                      rotate_left
                      · intro w hSw; obtain ⟨y1, y2, y3⟩ := hSw; go_simp; try with_reducible rfl
                      refine wpAnyH_take (i := 6) (v := ?_) rfl (by kernel_rfl) (by kernel_rfl) (by kernel_rfl) (fun _ _ _ h => h) (Or.inl ⟨by kernel_rfl, ?_⟩) hHeld ?_
                      rotate_left
                      · intro w hSw; obtain ⟨y1, y2, y3⟩ := hSw; go_simp; try with_reducible rfl
                      refine wpAnyH_take (i := 7) (v := ?_) rfl (by kernel_rfl) (by kernel_rfl) (by kernel_rfl) (fun _ _ _ h => h) (Or.inl ⟨by kernel_rfl, ?_⟩) hHeld ?_
                      rotate_left
                      · intro w hSw; obtain ⟨y1, y2, y3⟩ := hSw; go_simp; try with_reducible rfl
                      refine wpAnyH_take (i := 8) (v := ?_) rfl (by kernel_rfl) (by kernel_rfl) (by kernel_rfl) (fun _ _ _ h => h) (Or.inl ⟨by kernel_rfl, ?_⟩) hHeld ?_
                      rotate_left
                      · intro w hSw; obtain ⟨y1, y2, y3⟩ := hSw; go_simp; try with_reducible rfl
                      refine wpAnyH_take (i := 9) (v := ?_) rfl (by kernel_rfl) (by kernel_rfl) (by kernel_rfl) (fun _ _ _ h => h) (Or.inl ⟨by kernel_rfl, ?_⟩) hHeld ?_
                      rotate_left
                      · intro w hSw; obtain ⟨y1, y2, y3⟩ := hSw; go_simp; try with_reducible rfl
                      refine wpAnyH_take (i := 10) (v := ?_) rfl (by kernel_rfl) (by kernel_rfl) (by kernel_rfl) (fun _ _ _ h => h) (Or.inl ⟨by kernel_rfl, ?_⟩) hHeld ?_
                      rotate_left
                      · intro w hSw; obtain ⟨y1, y2, y3⟩ := hSw; go_simp; try with_reducible rfl
                      refine wpAnyH_take (i := 11) (v := ?_) rfl (by kernel_rfl) (by kernel_rfl) (by kernel_rfl) (fun _ _ _ h => h) (Or.inl ⟨by kernel_rfl, ?_⟩) hHeld ?_
                      rotate_left
                      · intro w hSw; obtain ⟨y1, y2, y3⟩ := hSw; go_simp; try with_reducible rfl
                      refine wpAnyH_take (i := 12) (v := ?_) rfl (by kernel_rfl) (by kernel_rfl) (by kernel_rfl) (fun _ _ _ h => h) (Or.inl ⟨by kernel_rfl, ?_⟩) hHeld ?_
                      rotate_left
                      · intro w hSw; obtain ⟨y1, y2, y3⟩ := hSw; go_simp; try with_reducible rfl
                      refine wpAnyH_take (i := 13) (v := ?_) rfl (by kernel_rfl) (by kernel_rfl) (by kernel_rfl) (fun _ _ _ h => h) (Or.inl ⟨by kernel_rfl, ?_⟩) hHeld ?_
                      rotate_left
                      · intro w hSw; obtain ⟨y1, y2, y3⟩ := hSw; go_simp; try with_reducible rfl
                      refine wpAnyH_take (i := 14) (v := ?_) rfl (by kernel_rfl) (by kernel_rfl) (by kernel_rfl) (fun _ _ _ h => h) (Or.inl ⟨by kernel_rfl, ?_⟩) hHeld ?_
                      rotate_left
                      · intro w hSw; obtain ⟨y1, y2, y3⟩ := hSw; go_simp; try with_reducible rfl
                      refine wpAnyH_take (i := 15) (v := ?_) rfl (by kernel_rfl) (by kernel_rfl) (by kernel_rfl) (fun _ _ _ h => h) (Or.inl ⟨by kernel_rfl, ?_⟩) hHeld ?_
                      rotate_left
                      · intro w hSw; obtain ⟨y1, y2, y3⟩ := hSw; go_simp; try with_reducible rfl
                      refine wpAnyH_take (i := 16) (v := ?_) rfl (by kernel_rfl) (by kernel_rfl) (by kernel_rfl) (fun _ _ _ h => h) (Or.inl ⟨by kernel_rfl, ?_⟩) hHeld ?_
                      rotate_left
                      · intro w hSw; obtain ⟨y1, y2, y3⟩ := hSw; go_simp; try with_reducible rfl
                      refine wpAnyH_take (i := 17) (v := ?_) rfl (by kernel_rfl) (by kernel_rfl) (by kernel_rfl) (fun _ _ _ h => h) (Or.inl ⟨by kernel_rfl, ?_⟩) hHeld ?_
                      rotate_left
                      · intro w hSw; obtain ⟨y1, y2, y3⟩ := hSw; go_simp; try with_reducible rfl
                      refine wpAnyH_take (i := 18) (v := ?_) rfl (by kernel_rfl) (by kernel_rfl) (by kernel_rfl) (fun _ _ _ h => h) (Or.inl ⟨by kernel_rfl, ?_⟩) hHeld ?_
                      rotate_left
                      · intro w hSw; obtain ⟨y1, y2, y3⟩ := hSw; go_simp; try with_reducible rfl
                      refine wpAnyH_take (i := 19) (v := ?_) rfl (by kernel_rfl) (by kernel_rfl) (by kernel_rfl) (fun _ _ _ h => h) (Or.inl ⟨by kernel_rfl, ?_⟩) hHeld ?_
                      rotate_left
                      · intro w hSw; obtain ⟨y1, y2, y3⟩ := hSw; go_simp; try with_reducible rfl
                      refine wpAnyH_take (i := 20) (v := ?_) rfl (by kernel_rfl) (by kernel_rfl) (by kernel_rfl) (fun _ _ _ h => h) (Or.inl ⟨by kernel_rfl, ?_⟩) hHeld ?_
                      rotate_left
                      · intro w hSw; obtain ⟨y1, y2, y3⟩ := hSw; go_simp; try with_reducible rfl
                      refine wpAnyH_take (i := 21) (v := ?_) rfl (by kernel_rfl) (by kernel_rfl) (by kernel_rfl) (fun _ _ _ h => h) (Or.inl ⟨by kernel_rfl, ?_⟩) hHeld ?_
                      rotate_left
                      · intro w hSw; obtain ⟨y1, y2, y3⟩ := hSw; go_simp; try with_reducible rfl
                      refine wpAnyH_take (i := 22) (v := ?_) rfl (by kernel_rfl) (by kernel_rfl) (by kernel_rfl) (fun _ _ _ h => h) (Or.inl ⟨by kernel_rfl, ?_⟩) hHeld ?_
                      rotate_left
                      · intro w hSw; obtain ⟨y1, y2, y3⟩ := hSw; go_simp; try with_reducible rfl
                      refine wpAnyH_take (i := 23) (v := ?_) rfl (by kernel_rfl) (by kernel_rfl) (by kernel_rfl) (fun _ _ _ h => h) (Or.inl ⟨by kernel_rfl, ?_⟩) hHeld ?_
                      rotate_left
                      · intro w hSw; obtain ⟨y1, y2, y3⟩ := hSw; go_simp; try with_reducible rfl
                      refine wpAnyH_take (i := 24) (v := ?_) rfl (by kernel_rfl) (by kernel_rfl) (by kernel_rfl) (fun _ _ _ h => h) (Or.inl ⟨by kernel_rfl, ?_⟩) hHeld ?_
                      rotate_left
                      · intro w hSw; obtain ⟨y1, y2, y3⟩ := hSw; go_simp; try with_reducible rfl
                      clear hHeld
                      refine wpAnyH_ready (rs := [25]) (by kernel_rfl) (by simp) ?_
                      refine AllReadyH.cons rfl (fun KK hKK => ?_) ?_
                      · rw [if_pos (by kernel_rfl)]
                        go_simp
                        refine hKK.out _ _ HS2.out (fun _ => ?_)
                        clear hKK KK
                        refine wpAnyH_done (by kernel_rfl) ?_ _
                        refine NoPanic.normal ?_
                        go_wp2
                        go_roundw
                        case rel => exact ⟨(q + 1) + 1, by go_num, by omega, by rw [HSEEN.out]; rfl, HSETD.out, HBSD.out⟩
                        case measure => simp [intOf]; omega
                      exact AllReadyH.nil
                  · have hVV : V = true := by rw [HV2.out]; rfl
                    subst hVV
                    have c1 : wr.drew.cell? ⟨wo.heap.size + 1, q + 1, none⟩ = some (.bool ov) := cn
                    have c4 : wr.drew.frozen? ⟨wo.heap.size + 1, q + 1, none⟩ = false := hfz
                    have hS1 : wr.drew.cell? ⟨wo.heap.size, 1, none⟩ = some (.bool true) ∧ wr.drew.cell? ⟨wo.heap.size, 2, none⟩ = some (.int .u8 xe) ∧ wr.drew.cell? ⟨g, q, none⟩ = some (.bool true) := ⟨f1, f2, cq⟩
                    have hS2 : (World.setCell wr.drew ⟨wo.heap.size + 1, q + 1, none⟩ (.bool true)).cell? ⟨wo.heap.size, 1, none⟩ = some (.bool true) ∧ (World.setCell wr.drew ⟨wo.heap.size + 1, q + 1, none⟩ (.bool true)).cell? ⟨wo.heap.size, 2, none⟩ = some (.int .u8 xe) ∧ (World.setCell wr.drew ⟨wo.heap.size + 1, q + 1, none⟩ (.bool true)).cell? ⟨g, q, none⟩ = some (.bool true) := by
                      have hq2 := (Below.refl (wo.heap.size + 1) wr.drew).setCell (p := ⟨wo.heap.size + 1, q + 1, none⟩) (Nat.le_refl _) (.bool true)
                      exact ⟨by rw [hq2.cell (p := ⟨wo.heap.size, 1, none⟩) (Nat.lt_succ_self _)]; exact hS1.1, by rw [hq2.cell (p := ⟨wo.heap.size, 2, none⟩) (Nat.lt_succ_self _)]; exact hS1.2.1, by rw [hq2.cell (p := ⟨g, q, none⟩) (Nat.lt_succ_of_lt hglt)]; exact hS1.2.2⟩
                    have HS2 := Lib.hid hS2
                    clear hS2
                    clear hlt2
                    go_upto_region 16 with fail
                    refine wp_region_noPanic ?_
                    refine wp_region_held_drew (S := fun w' => w'.cell? ⟨wo.heap.size, 1, none⟩ = some (.bool true) ∧ w'.cell? ⟨wo.heap.size, 2, none⟩ = some (.int .u8 xe) ∧ w'.cell? ⟨g, q, none⟩ = some (.bool true)) (by kernel_rfl) hS1 (fun hHeld => ?_)
                    clear hS1
                    refine wpAnyH_take (i := 0) (v := ?_) rfl (by kernel_rfl) (by kernel_rfl) (by kernel_rfl) (fun _ _ _ h => h) (Or.inl ⟨by kernel_rfl, ?_⟩) hHeld ?_
                    rotate_left
                    · intro w hSw; obtain ⟨y1, y2, y3⟩ := hSw; go_simp; try with_reducible rfl
                    refine wpAnyH_take (i := 1) (v := ?_) rfl (by kernel_rfl) (by kernel_rfl) (by kernel_rfl) (fun _ _ _ h => h) (Or.inl ⟨by kernel_rfl, ?_⟩) hHeld ?_
                    rotate_left
                    · intro w hSw; obtain ⟨y1, y2, y3⟩ := hSw; go_simp; try with_reducible rfl
                    refine wpAnyH_take (i := 2) (v := ?_) rfl (by kernel_rfl) (by kernel_rfl) (by kernel_rfl) (fun _ _ _ h => h) (Or.inl ⟨by kernel_rfl, ?_⟩) hHeld ?_
                    rotate_left
                    · intro w hSw; obtain ⟨y1, y2, y3⟩ := hSw; go_simp; try with_reducible rfl
                    refine wpAnyH_take (i := 3) (v := ?_) rfl (by kernel_rfl) (by kernel_rfl) (by kernel_rfl) (fun _ _ _ h => h) (Or.inl ⟨by kernel_rfl, ?_⟩) hHeld ?_
                    rotate_left
                    · intro w hSw; obtain ⟨y1, y2, y3⟩ := hSw; go_simp; try with_reducible rfl
                    refine wpAnyH_take (i := 4) (v := ?_) rfl (by kernel_rfl) (by kernel_rfl) (by kernel_rfl) (fun _ _ _ h => h) (Or.inl ⟨by kernel_rfl, ?_⟩) hHeld ?_
                    rotate_left
                    · intro w hSw; obtain ⟨y1, y2, y3⟩ := hSw; go_simp; try with_reducible rfl
                    refine wpAnyH_take (i := 5) (v := ?_) rfl (by kernel_rfl) (by kernel_rfl) (by kernel_rfl) (fun _ _ _ h => h) (Or.inl ⟨by kernel_rfl, ?_⟩) hHeld ?_
                    rotate_left
                    · intro w hSw; obtain ⟨y1, y2, y3⟩ := hSw; go_simp; try with_reducible rfl
                    refine wpAnyH_take (i := 6) (v := ?_) rfl (by kernel_rfl) (by kernel_rfl) (by kernel_rfl) (fun _ _ _ h => h) (Or.inl ⟨by kernel_rfl, ?_⟩) hHeld ?_
                    rotate_left
                    · intro w hSw; obtain ⟨y1, y2, y3⟩ := hSw; go_simp; try with_reducible rfl
                    refine wpAnyH_take (i := 7) (v := ?_) rfl (by kernel_rfl) (by kernel_rfl) (by kernel_rfl) (fun _ _ _ h => h) (Or.inl ⟨by kernel_rfl, ?_⟩) hHeld ?_
                    rotate_left
                    · intro w hSw; obtain ⟨y1, y2, y3⟩ := hSw; go_simp; try with_reducible rfl
                    refine wpAnyH_take (i := 8) (v := ?_) rfl (by kernel_rfl) (by kernel_rfl) (by kernel_rfl) (fun _ _ _ h => h) (Or.inl ⟨by kernel_rfl, ?_⟩) hHeld ?_
                    rotate_left
                    · intro w hSw; obtain ⟨y1, y2, y3⟩ := hSw; go_simp; try with_reducible rfl
                    refine wpAnyH_take (i := 9) (v := ?_) rfl (by kernel_rfl) (by kernel_rfl) (by kernel_rfl) (fun _ _ _ h => h) (Or.inl ⟨by kernel_rfl, ?_⟩) hHeld ?_
                    rotate_left
                    · intro w hSw; obtain ⟨y1, y2, y3⟩ := hSw; go_simp; try with_reducible rfl
                    refine wpAnyH_take (i := 10) (v := ?_) rfl (by kernel_rfl) (by kernel_rfl) (by kernel_rfl) (fun _ _ _ h => h) (Or.inl ⟨by kernel_rfl, ?_⟩) hHeld ?_
                    rotate_left
                    · intro w hSw; obtain ⟨y1, y2, y3⟩ := hSw; go_simp; try with_reducible rfl
                    refine wpAnyH_take (i := 11) (v := ?_) rfl (by kernel_rfl) (by kernel_rfl) (by kernel_rfl) (fun _ _ _ h => h) (Or.inl ⟨by kernel_rfl, ?_⟩) hHeld ?_
                    rotate_left
                    · intro w hSw; obtain ⟨y1, y2, y3⟩ := hSw; go_simp; try with_reducible rfl
                    refine wpAnyH_take (i := 12) (v := ?_) rfl (by kernel_rfl) (by kernel_rfl) (by kernel_rfl) (fun _ _ _ h => h) (Or.inl ⟨by kernel_rfl, ?_⟩) hHeld ?_
                    rotate_left
                    · intro w hSw; obtain ⟨y1, y2, y3⟩ := hSw; go_simp; try with_reducible rfl
                    refine wpAnyH_take (i := 13) (v := ?_) rfl (by kernel_rfl) (by kernel_rfl) (by kernel_rfl) (fun _ _ _ h => h) (Or.inl ⟨by kernel_rfl, ?_⟩) hHeld ?_
                    rotate_left
                    · intro w hSw; obtain ⟨y1, y2, y3⟩ := hSw; go_simp; try with_reducible rfl
                    refine wpAnyH_take (i := 14) (v := ?_) rfl (by kernel_rfl) (by kernel_rfl) (by kernel_rfl) (fun _ _ _ h => h) (Or.inl ⟨by kernel_rfl, ?_⟩) hHeld ?_
                    rotate_left
                    · intro w hSw; obtain ⟨y1, y2, y3⟩ := hSw; go_simp; try with_reducible rfl
                    refine wpAnyH_take (i := 15) (v := undef) rfl (by kernel_rfl) (by kernel_rfl) (by kernel_rfl) (fun _ _ _ h => h) (Or.inr ⟨by kernel_rfl, rfl⟩) hHeld ?_
                    refine wpAnyH_take (i := 16) (v := undef) rfl (by kernel_rfl) (by kernel_rfl) (by kernel_rfl) (fun _ _ _ h => h) (Or.inr ⟨by kernel_rfl, rfl⟩) hHeld ?_
                    refine wpAnyH_take (i := 17) (v := undef) rfl (by kernel_rfl) (by kernel_rfl) (by kernel_rfl) (fun _ _ _ h => h) (Or.inr ⟨by kernel_rfl, rfl⟩) hHeld ?_
                    refine wpAnyH_take (i := 18) (v := undef) rfl (by kernel_rfl) (by kernel_rfl) (by kernel_rfl) (fun _ _ _ h => h) (Or.inr ⟨by kernel_rfl, rfl⟩) hHeld ?_
                    refine wpAnyH_take (i := 19) (v := undef) rfl (by kernel_rfl) (by kernel_rfl) (by kernel_rfl) (fun _ _ _ h => h) (Or.inr ⟨by kernel_rfl, rfl⟩) hHeld ?_
                    refine wpAnyH_take (i := 20) (v := undef) rfl (by kernel_rfl) (by kernel_rfl) (by kernel_rfl) (fun _ _ _ h => h) (Or.inr ⟨by kernel_rfl, rfl⟩) hHeld ?_
                    refine wpAnyH_take (i := 21) (v := undef) rfl (by kernel_rfl) (by kernel_rfl) (by kernel_rfl) (fun _ _ _ h => h) (Or.inr ⟨by kernel_rfl, rfl⟩) hHeld ?_
                    refine wpAnyH_take (i := 22) (v := ?_) rfl (by kernel_rfl) (by kernel_rfl) (by kernel_rfl) (fun _ _ _ h => h) (Or.inl ⟨by kernel_rfl, ?_⟩) hHeld ?_
                    rotate_left
                    · intro w hSw; obtain ⟨y1, y2, y3⟩ := hSw; go_simp; try with_reducible rfl
                    refine wpAnyH_take (i := 23) (v := ?_) rfl (by kernel_rfl) (by kernel_rfl) (by kernel_rfl) (fun _ _ _ h => h) (Or.inl ⟨by kernel_rfl, ?_⟩) hHeld ?_
                    rotate_left
                    · intro w hSw; obtain ⟨y1, y2, y3⟩ := hSw; go_simp; try with_reducible rfl
                    refine wpAnyH_take (i := 24) (v := ?_) rfl (by kernel_rfl) (by kernel_rfl) (by kernel_rfl) (fun _ _ _ h => h) (Or.inl ⟨by kernel_rfl, ?_⟩) hHeld ?_
                    rotate_left
                    · intro w hSw; obtain ⟨y1, y2, y3⟩ := hSw; go_simp; try with_reducible rfl
                    clear hHeld
                    refine wpAnyH_ready (rs := [25]) (by kernel_rfl) (by simp) ?_
                    refine AllReadyH.cons rfl (fun KK hKK => ?_) ?_
                    · rw [if_pos (by kernel_rfl)]
                      go_simp
                      refine hKK.out _ _ HS2.out (fun _ => ?_)
                      clear hKK KK
                      refine wpAnyH_done (by kernel_rfl) ?_ _
                      refine NoPanic.normal ?_
                      go_wp2
                      go_roundw
                      case rel => exact ⟨(q + 1) + 1, by go_num, by omega, by rw [HSEEN.out]; rfl, HSETD.out, HBSD.out⟩
                      case measure => simp [intOf]; omega
                    exact AllReadyH.nil
        · obtain rfl : N = j := by omega
          have hbx : Below wo.heap.size wo wr := ((Below.refl _ _).alloc (Nat.le_refl _) _).trans (hbl.mono (by simp))
          have hzo : w1.heap.size ≤ wo.heap.size := HB.out.size
          have hzr : w1.heap.size ≤ wr.heap.size := Nat.le_trans hzo hbx.size
          have hat2 : Own wr w1.heap.size 4 (.slice (some ⟨wo.heap.size + 1, 0, none⟩) N N) (bv (nextR E S P)) := by
            rw [← partR_all, hSl]; exact own_base hown (by omega)
          have hgo := HHOUT.out.below hbx (Nat.le_refl _)
          have hbw := HB.out.trans (hbx.mono hzo)
          have hgl := hat2.get (bv_get (l := nextR E S P) (i := s.size) (by rw [nextR_len, hSl]; have := HN.out; omega))
          obtain ⟨V, hV⟩ : ∃ V, (nextR E S P).getD S.length false = V := ⟨_, rfl⟩
          have hSs : S.length = s.size := by have := HN.out; omega
          rw [← hSs, hV, hSs] at hgl
          have hl1 : (bv (outR (es.take i) S)).length < 1000000000000 := by rw [bv_len]; simp [outR]; omega
          have hzl : (wo.heap.size + 1) < wr.heap.size := (hat2.lt _ rfl).2
          have HAT2 := Lib.hid hat2
          have HBW := Lib.hid hbw
          have HVX := Lib.hid hV
          have HSS3 := Lib.hid hSs
          have t1 : decide ((N : Int) ≤ (s.size : Int)) = false := decide_eq_false (by have := HN.out; omega)
          have t4 : (s.size : Int) < (N : Int) := by have := HN.out; omega
          have t5 : s.size < N := by have := HN.out; omega
          clear hown hbl hbx hat2 hbw hV hSs hSl hjN
          go_wp2_with (at_builtin; with_reducible refine ap1' elBools rfl hgo hl1 hzr rfl _ _ rfl rfl rfl ?_)
          intro v5 w5 g1 g2 g3 g4
          have e5 := (Eff.refl (fun k => (Value.slice A (i + 1) C).ownBlock = some k) wr).grown g4 (fun i hi _ => hi)
          have hat5 := HAT2.out.eff e5 (fun k hk hf => by
            have h1 := (HHOUT.out.lt k hf).2
            have h2 : wo.heap.size + 1 = k := by simpa [Value.ownBlock] using hk
            omega)
          have hbw5 := HBW.out.trans (e5.below (B := w1.heap.size) (fun k hk => (hgo.lt k hk).1) hzr)
          have ho5 : Own w5 w1.heap.size 4 v5 (bv (outR (es.take (i + 1)) S)) := by
            rw [HOUTS.out, HVX.out, ← bv_app]; exact g1
          have hat6 : Own w5 w1.heap.size 4 (.slice (some ⟨wo.heap.size + 1, 0, none⟩) N N) (bv (tabR (es.take (i + 1)) S)) := by
            rw [HNEXT.out]; exact hat5
          obtain ⟨a5, c5, rfl⟩ := own_slice ho5
          have hl5 : (bv (outR (es.take (i + 1)) S)).length = i + 1 + 1 := by rw [bv_len]; simp [outR]; omega
          rw [hl5] at ho5 ⊢
          have HO5 := Lib.hid ho5
          have HA6 := Lib.hid hat6
          have HB5 := Lib.hid hbw5
          clear g1 g2 g3 g4 e5 hat5 hbw5 ho5 hat6 hl5 hgl hgo hl1
          go_wp2
          go_roundw
          case rel => exact ⟨i + 1, wo.heap.size + 1, a5, c5, by go_num, by omega, rfl, HA6.out, rfl, HO5.out, HB5.out⟩
          case measure => simp [intOf]; omega
    -- AFTER
    · obtain rfl : i = es.length := by omega
      have HO := Lib.hid hout
      have HB := Lib.hid (HB1.out.trans (hb.mono HB1.out.size))
      clear hat hout hb hlt hc0
      go_wp2
      go_ret
      rw [List.take_length] at HO
      exact ⟨_, rfl, own_base HO.out HB1.out.size, HB.out⟩
end Go.Proofs.YtejmjjgbbojfbaaDoor
