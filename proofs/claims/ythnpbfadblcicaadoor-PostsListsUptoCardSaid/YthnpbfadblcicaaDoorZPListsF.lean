/- posts: the walk of the law PostsLists. -/
import Derived.Test.YthnpbfadblcicaaDoorZPLives
import Derived.Test.YthnpbfadblcicaaDoorZBlock
import Derived.Test.YthnpbfadblcicaaDoorZG10
import Derived.Test.YthnpbfadblcicaaDoorZREncode
import Derived.Test.YthnpbfadblcicaaDoorZPSkip
import Derived.Test.YthnpbfadblcicaaDoorZG11
namespace Go.Proofs.YthnpbfadblcicaaDoor
set_option linter.unusedVariables false
open Go.ChangeShapes Go.WideShapes Go.ChangeAt Go.RowKit

/-- A call of a List. -/
structure Op2 where
  k : Int
  n : Int
def RdOp2 (w : World) (a : Option Addr) (n : Nat) (os : List Op2) : Prop :=
  n = os.length ∧ ∀ (i : Nat) (h : i < os.length), ∃ b o, a = some ⟨b, o, none⟩ ∧ w.cell? ⟨b, o + i * 2, none⟩ = some (.int .i64 os[i].k) ∧ w.cell? ⟨b, o + i * 2 + 1, none⟩ = some (.int .i64 os[i].n)
theorem RdOp2.below {w w' : World} {a : Option Addr} {n B : Nat} {os : List Op2} (h : RdOp2 w a n os) (hb : Below B w w') (hB : w.heap.size ≤ B) : RdOp2 w' a n os := by
  refine ⟨h.1, fun i hi => ?_⟩
  obtain ⟨b, o, e, h1, h2⟩ := h.2 i hi
  exact ⟨b, o, e, by rw [hb.cell (by have := World.block_lt_of_cell? w _ h1; exact Nat.lt_of_lt_of_le this hB)]; exact h1, by rw [hb.cell (by have := World.block_lt_of_cell? w _ h2; exact Nat.lt_of_lt_of_le this hB)]; exact h2⟩
theorem ListAt.eff {F : Nat → Prop} {w w' : World} {base p : Nat} {im sv : Value} {b : List UInt8} {n t : Nat} {SS : List SkV} (h : ListAt w base p im sv b n t SS) (e : Eff F w w') (hF : ∀ k, base ≤ k → ¬ F k) : ListAt w' base p im sv b n t SS :=
  ⟨(e.block p (lt_of_heap h.blk) (hF p h.hp)).trans h.blk, h.hp, h.img.eff e (fun k hk => hF k (h.img.lt k hk).1), h.sk.eff e (fun k hk => hF k (h.sk.lt k hk).1)⟩
/-- The state of the calls' loop. -/
structure LsS (w wr : World) (p : Nat) (im sv : Value) (b : List UInt8) (n t : Nat) (S : List SkV) (s2 : Value) : Prop where
  l : ListAt wr w.heap.size p im sv b n t S
  s : RowS wr w.heap.size s2 S
  b : Below w.heap.size w wr
theorem LsS.step {w wr w2 : World} {p : Nat} {im sv : Value} {b : List UInt8} {n t : Nat} {S : List SkV} {s2 : Value} (h : LsS w wr p im sv b n t S s2) (hb : Below wr.heap.size wr w2) : LsS w w2 p im sv b n t S s2 :=
  ⟨h.l.below hb (Nat.le_refl _), h.s.below hb (Nat.le_refl _), h.b.trans (hb.mono h.b.size)⟩
theorem LsS.drewN {w wr : World} {p : Nat} {im sv : Value} {b : List UInt8} {n t : Nat} {S : List SkV} {s2 : Value} (h : LsS w wr p im sv b n t S s2) (d : Nat) : LsS w (wr.drewN d) p im sv b n t S s2 :=
  ⟨h.l.drewN d, h.s, below_drewN h.b d⟩
set_option maxRecDepth 100000 in
set_option maxHeartbeats 16000000 in
theorem postsLists_walk (w : World) (a : Option Addr) (n c : Nat) (ps : List PostV) (hr : RdPost w a n ps) (hnc : n ≤ c) (hf : FitP ps) (hl : ps.length ≤ 1048576) (hT : totalV ps ≤ 1048576)
    (a2 : Option Addr) (n2 c2 : Nat) (os : List Op2) (hro : RdOp2 w a2 n2 os) (hol : os.length ≤ 1048576) (EA : Nat → Addr) (hS : Sent7 w EA) :
    Calls Tryd.prog 4 #[.slice a n c, .slice a2 n2 c2] w fun e w' => e = .returned (.bool true) ∧ Below w.heap.size w w' := by
  obtain rfl := hro.1
  obtain rfl := hr.1
  have C1 := lives_any w EA hS
  have HS := Lib.hid hS
  have HR := Lib.hid hr
  have HRO := Lib.hid hro
  have HF := Lib.hid hf
  clear hS hr hro hf
  go_enter Tryd.func4, Tryd.ntmps4
  go_wp2_with fail
  with_reducible refine C1.mono ?_
  rintro e w1 ⟨rfl, hb1⟩
  clear C1
  have C2 := renc_any w1 a ps.length c ps (HR.out.below hb1 (Nat.le_refl _)) hnc HF.out hl (by omega) EA (HS.out.below hb1)
  have HB1 := Lib.hid hb1
  clear hb1
  go_wp2_with fail
  with_reducible refine C2.mono ?_
  rintro e w2 ⟨h2, h2n⟩
  clear C2
  by_cases ok : okV (-1) ps
  · obtain ⟨A, N, C, rfl, ho2, hb2⟩ := h2 ok
    have hb12 := HB1.out.trans (hb2.mono HB1.out.size)
    have himl := image_le4 HF.out ok (by omega) (by omega)
    have himp := image_pos ps
    have hop := openV_of ok HF.out (by omega) (by omega)
    have hblk := blkOk hop (by omega)
    obtain ⟨q1, q2, q3, q4⟩ := chp_flat _ ps (Nat.le_refl _)
    have C3 := open_any w2 A N C _ ho2.rd (by omega) EA (HS.out.below hb12)
    have E4 : ∀ w3, Below w.heap.size w w3 → _ := fun w3 h3 => rska_any w3 a ps.length c ps (HR.out.below h3 (Nat.le_refl _)) hnc HF.out ok hl (by omega)
    have hsl : (skV (-1) (headL ps) (chp ps)).length = (chp ps).length := skV_len _ _ _
    have hget := chp_get
    obtain ⟨IM, hIM⟩ : ∃ IM, imageV ps = IM := ⟨_, rfl⟩
    obtain ⟨S, hS⟩ : ∃ S, skV (-1) (headL ps) (chp ps) = S := ⟨_, rfl⟩
    simp only [hIM, hS] at ho2 himl himp hop hblk C3 E4 hsl
    have hNl := ho2.len
    rw [bytesV_length] at hNl
    subst hNl
    have hz1 := HB1.out.size
    have hSl : S.length ≤ 1048576 := by omega
    have HQ := Lib.hid (hsl.trans q4)
    have HQC := Lib.hid hsl
    have HOP := Lib.hid hop
    have HBLK := Lib.hid hblk
    have HE4 := Lib.hid E4
    have HO2 := Lib.hid ho2
    have HB2 := Lib.hid hb12
    clear h2 h2n hb2 hb12 ho2 hop hblk E4 HB1 hIM hS hget q1 q2 q3 q4 hsl
    go_wp2_with fail
    with_reducible refine C3.mono ?_
    rintro e w3 ⟨h3, -, hb3⟩
    clear C3
    obtain ⟨p, im, sv, rfl, hl3⟩ := h3 _ HOP.out
    have hb13 := HB2.out.trans (hb3.mono HB2.out.size)
    have C4 := HE4.out w3 hb13
    have ho3 := HO2.out.below hb3 (Nat.le_refl _)
    have hz23 := hb3.size
    have HL3 := Lib.hid hl3
    have HB3 := Lib.hid hb13
    have HO3 := Lib.hid ho3
    clear h3 hl3 hb3 hb13 ho3 HE4 HB2
    go_wp2_with fail
    with_reducible refine C4.mono ?_
    rintro e w4 ⟨A4, N4, K4, rfl, hs4, hb4⟩
    clear C4
    obtain rfl : N4 = S.length := by obtain ⟨_, _, e⟩ := hs4.sl; injection e
    have hb14 := HB3.out.trans (hb4.mono HB3.out.size)
    have ho4 := HO3.out.below hb4 (Nat.le_refl _)
    have hl4 := HL3.out.below hb4 (Nat.le_refl _)
    obtain ⟨gb, capb, hv, hgb0, hgb1, hcap, -, -⟩ := HO2.out.pos (by rw [bytesV_length]; exact himp)
    rw [bytesV_length] at hv
    injection hv with e1 _ e3
    subst e1 e3
    have hgb2 : gb < w2.heap.size := hgb1
    have hs4' := hs4.mono (base' := w2.heap.size) hz23
    have HS4 := Lib.hid hs4'
    have HL4 := Lib.hid hl4
    have HB4 := Lib.hid hb14
    have HO4 := Lib.hid ho4
    have hgbw : w.heap.size ≤ gb := Nat.le_trans (by have := HO2.out.lt gb rfl; omega) hgb0
    clear hs4 hs4' hl4 hb14 ho4 hb4 HO3 HO2 HL3 HB3 hgb1 hcap hgb0
    go_wp2
    go_loopw [10, 42] (fun s10 s42 wr => ∃ (i : Nat) (xs : List Value), s42 = .int .i64 i ∧ i ≤ IM.length ∧ xs.length = IM.length ∧ Own wr w.heap.size 5 (.slice (some ⟨gb, 0, none⟩) IM.length C) xs ∧ Eff (· = gb) w4 wr) (fun _ s42 _ => IM.length - (intOf s42).toNat)
    case atStart => exact ⟨0, _, rfl, Nat.zero_le _, bytesV_length _, own_base HO4.out hz1, Eff.refl _ _⟩
    case round =>
      obtain ⟨i, xs, rfl, hi, hxl, ho, he⟩ := hrel
      by_cases hlt : i < IM.length
      · have i1 : (i : Int) < (IM.length : Int) := by omega
        have hfr := ho.frozen i
        have ho2 := ho.set i (.int .u8 85)
        have he2 := he.setCell (p := ⟨gb, i, none⟩) (fun _ => rfl) (.int .u8 85)
        obtain ⟨x0, hx0⟩ : ∃ x0, wr.cell? ⟨gb, i, none⟩ = some x0 := ⟨_, ho.get (List.getElem?_eq_getElem (by omega))⟩
        have HO := Lib.hid ho2
        have HE := Lib.hid he2
        clear ho he ho2 he2 HL4 HS4 HB4 HO4 HBLK
        go_wp2
        go_roundw
        case rel => exact ⟨i + 1, _, by go_num, by omega, by rw [List.length_set]; exact hxl, HO.out, HE.out⟩
        case measure => simp [intOf]; omega
      · obtain rfl : i = IM.length := by omega
        have i1 : ¬ ((IM.length : Int) < (IM.length : Int)) := by omega
        have hls : LsS w wr p im sv IM ps.length (totalV ps) S (.slice A4 S.length K4) := ⟨(HL4.out.eff he (fun k hk e => by omega)).mono (Nat.le_trans hgbw (Nat.le_of_lt hgb2)), (HS4.out.eff he (fun k hk e => by have := (HS4.out.lt k hk).1; omega)).mono (Nat.le_trans hgbw (Nat.le_of_lt hgb2)),
          (HB4.out).trans (he.below (B := w.heap.size) (fun k e => by omega) HB4.out.size)⟩
        have HLS := Lib.hid hls
        clear ho he hls HL4 HS4 HB4 HO4
        go_wp2
        go_loopw [13, 51] (fun s13 s51 wr => ∃ (i : Nat) (t13 : Value), s13 = t13 ∧ s51 = .int .i64 i ∧ i ≤ os.length ∧ LsS w wr p im sv IM ps.length (totalV ps) S (.slice A4 S.length K4)) (fun _ s51 _ => os.length - (intOf s51).toNat)
        case atStart => exact ⟨0, _, rfl, rfl, Nat.zero_le _, HLS.out⟩
        case round =>
          clear HLS
          obtain ⟨i, t13, rfl, rfl, hi, hls⟩ := hrel
          by_cases hlt : i < os.length
          · obtain ⟨b, o, rfl, g0, g1⟩ := (HRO.out.below hls.b (Nat.le_refl _)).2 i hlt
            obtain ⟨x, hx⟩ : ∃ x, os[i] = x := ⟨_, rfl⟩
            rw [hx] at g0 g1
            obtain ⟨ki, ni⟩ := x
            simp only at g0 g1
            have hls2 := hls.step ((Below.refl _ wr).alloc (Nat.le_refl _) (.cells #[.int .i64 ki, .int .i64 ni] 40))
            have e1 := heap_alloc_new wr (.cells #[.int .i64 ki, .int .i64 ni] 40)
            have i1 : (i : Int) < (os.length : Int) := by omega
            have HLS := Lib.hid hls2
            have HE1 := Lib.hid e1
            clear hls hls2 e1 hx
            go_upto_region 18 with fail
            generalize wr.alloc (.cells #[.int .i64 ki, .int .i64 ni] 40) = w5 at HLS HE1 ⊢
            generalize wr.heap.size = GO at HE1 ⊢
            clear g0 g1
            have f0 := blk_cell HE1.out 0
            have f1 := blk_cell HE1.out 1
            have hU0 : 0 ≤ IntKind.u64.wrap ki := by rw [IntKind.wrap_u64]; exact Int.emod_nonneg _ (by decide)
            obtain ⟨U, hU⟩ : ∃ U : Nat, IntKind.u64.wrap ki = (U : Int) := ⟨_, (Int.toNat_of_nonneg hU0).symm⟩
            obtain ⟨K, hKl, hKe⟩ : ∃ K : Nat, K < 5 ∧ (U : Int) % 5 = (K : Int) := ⟨U % 5, Nat.mod_lt _ (by decide), by simp⟩
            clear hU0
            have hK5 : K = 0 ∨ K = 1 ∨ K = 2 ∨ K = 3 ∨ K = 4 := by omega
            clear hKl
            rcases hK5 with rfl | rfl | rfl | rfl | rfl
            · have D1 := docs_any w5 _ p im sv _ _ _ _ HLS.out.l
              go_wp2_with fail
              with_reducible refine D1.mono ?_
              rintro e w6 ⟨rfl, rfl⟩
              clear D1
              go_wp2
              go_roundw
              case rel => exact ⟨i + 1, _, rfl, by go_num, by omega, HLS.out⟩
              case measure => simp [intOf]; omega
            · have D1 := total_any w5 _ p im sv _ _ _ _ HLS.out.l
              go_wp2_with fail
              with_reducible refine D1.mono ?_
              rintro e w6 ⟨rfl, rfl⟩
              clear D1
              have D2 := rtot_any w5 a ps.length c ps (HR.out.below HLS.out.b (Nat.le_refl _)) (by omega) (by omega)
              go_wp2_with fail
              with_reducible refine D2.mono ?_
              rintro e w6 ⟨rfl, hb6⟩
              clear D2
              have HLS2 := Lib.hid (HLS.out.step hb6)
              clear hb6 HLS
              go_wp2
              go_roundw
              case rel => exact ⟨i + 1, _, rfl, by go_num, by omega, HLS2.out⟩
              case measure => simp [intOf]; omega
            · have D1 := blocks_any w5 _ p im sv _ _ _ _ HLS.out.l
              go_wp2_with fail
              with_reducible refine D1.mono ?_
              rintro e w6 ⟨rfl, rfl⟩
              clear D1
              go_wp2
              go_roundw
              case rel => exact ⟨i + 1, _, rfl, by go_num, by omega, HLS.out⟩
              case measure => simp [intOf]; omega
            · by_cases hin : ni < 0 ∨ (S.length : Int) ≤ ni
              · have hdec : (decide (0 ≤ ni) && decide (ni < (S.length : Int))) = false := by simp; omega
                by_cases h0 : ni < 0
                · have t0 : decide (0 ≤ ni) = false := decide_eq_false (by omega)
                  clear hdec
                  have D1 := skip_out w5 p _ _ _ _ _ _ S HLS.out.l (by omega) ni hin
                  go_wp2_with fail
                  with_reducible refine D1.mono ?_
                  rintro e w6 ⟨rfl, hb6⟩
                  clear D1
                  have f1 := (hb6.cell (p := ⟨GO, 1, none⟩) (World.block_lt_of_cell? w5 _ f1)).trans f1
                  have hls6 := (HLS.out.step hb6).step ((Below.refl _ w6).alloc (Nat.le_refl _) (.cells #[.int .i64 0, .int .i64 0, .int .i64 0, .int .i64 0] 45))
                  have e6 := heap_alloc_new w6 (.cells #[.int .i64 0, .int .i64 0, .int .i64 0, .int .i64 0] 45)
                  have f7 : (w6.alloc (.cells #[.int .i64 0, .int .i64 0, .int .i64 0, .int .i64 0] 45)).cell? ⟨GO, 1, none⟩ = _ := ((Below.refl w6.heap.size w6).alloc (Nat.le_refl _) _).cell (p := ⟨GO, 1, none⟩) (World.block_lt_of_cell? w6 _ f1) |>.trans f1
                  have HLS6 := Lib.hid hls6
                  have HE6 := Lib.hid e6
                  have HF7 := Lib.hid f7
                  clear hls6 e6 hb6 HLS f7
                  go_upto_region 28 with fail
                  generalize w6.alloc (.cells #[.int .i64 0, .int .i64 0, .int .i64 0, .int .i64 0] 45) = w7 at HLS6 HE6 HF7 ⊢
                  generalize w6.heap.size = G6 at HE6 ⊢
                  clear f0 f1
                  have f1 := HF7.out
                  have x0 := blk_cell HE6.out 0
                  have x1 := blk_cell HE6.out 1
                  have x2 := blk_cell HE6.out 2
                  have x3 := blk_cell HE6.out 3
                  have heq := eql_skz
                  have hgd := guard_sk
                  clear HE6 HF7
                  go_wp2
                  go_quiet (fail)
                  go_wp2
                  go_roundw
                  case rel => exact ⟨i + 1, _, rfl, by go_num, by omega, HLS6.out.drewN _⟩
                  case measure => simp [intOf]; omega
                · have t0 : decide (0 ≤ ni) = true := decide_eq_true (by omega)
                  have t1 : decide (ni < (S.length : Int)) = false := decide_eq_false (by omega)
                  clear hdec
                  have D1 := skip_out w5 p _ _ _ _ _ _ S HLS.out.l (by omega) ni hin
                  go_wp2_with fail
                  with_reducible refine D1.mono ?_
                  rintro e w6 ⟨rfl, hb6⟩
                  clear D1
                  have f1 := (hb6.cell (p := ⟨GO, 1, none⟩) (World.block_lt_of_cell? w5 _ f1)).trans f1
                  have hls6 := (HLS.out.step hb6).step ((Below.refl _ w6).alloc (Nat.le_refl _) (.cells #[.int .i64 0, .int .i64 0, .int .i64 0, .int .i64 0] 45))
                  have e6 := heap_alloc_new w6 (.cells #[.int .i64 0, .int .i64 0, .int .i64 0, .int .i64 0] 45)
                  have f7 : (w6.alloc (.cells #[.int .i64 0, .int .i64 0, .int .i64 0, .int .i64 0] 45)).cell? ⟨GO, 1, none⟩ = _ := ((Below.refl w6.heap.size w6).alloc (Nat.le_refl _) _).cell (p := ⟨GO, 1, none⟩) (World.block_lt_of_cell? w6 _ f1) |>.trans f1
                  have HLS6 := Lib.hid hls6
                  have HE6 := Lib.hid e6
                  have HF7 := Lib.hid f7
                  clear hls6 e6 hb6 HLS f7
                  go_upto_region 28 with fail
                  generalize w6.alloc (.cells #[.int .i64 0, .int .i64 0, .int .i64 0, .int .i64 0] 45) = w7 at HLS6 HE6 HF7 ⊢
                  generalize w6.heap.size = G6 at HE6 ⊢
                  clear f0 f1
                  have f1 := HF7.out
                  have x0 := blk_cell HE6.out 0
                  have x1 := blk_cell HE6.out 1
                  have x2 := blk_cell HE6.out 2
                  have x3 := blk_cell HE6.out 3
                  have heq := eql_skz
                  have hgd := guard_sk
                  clear HE6 HF7
                  go_wp2
                  go_quiet (fail)
                  go_wp2
                  go_roundw
                  case rel => exact ⟨i + 1, _, rfl, by go_num, by omega, HLS6.out.drewN _⟩
                  case measure => simp [intOf]; omega
              · obtain ⟨k, rfl⟩ : ∃ k : Nat, ni = k := ⟨ni.toNat, by omega⟩
                have hk : k < S.length := by omega
                clear hin
                obtain ⟨x, hx⟩ : ∃ x, S[k] = x := ⟨_, rfl⟩
                have D1 := skip_in w5 p _ _ _ _ _ _ S HLS.out.l (by omega) k hk
                rw [hx] at D1
                obtain ⟨la, dc, at_, sz⟩ := x
                simp only at D1
                go_wp2_with fail
                with_reducible refine D1.mono ?_
                rintro e w6 ⟨rfl, hb6⟩
                clear D1
                have f1 := (hb6.cell (p := ⟨GO, 1, none⟩) (World.block_lt_of_cell? w5 _ f1)).trans f1
                have hls6 := (HLS.out.step hb6).step ((Below.refl _ w6).alloc (Nat.le_refl _) (.cells #[.int .i64 la, .int .i64 (dc : Nat), .int .i64 (at_ : Nat), .int .i64 (sz : Nat)] 45))
                have e6 := heap_alloc_new w6 (.cells #[.int .i64 la, .int .i64 (dc : Nat), .int .i64 (at_ : Nat), .int .i64 (sz : Nat)] 45)
                have f7 : (w6.alloc (.cells #[.int .i64 la, .int .i64 (dc : Nat), .int .i64 (at_ : Nat), .int .i64 (sz : Nat)] 45)).cell? ⟨GO, 1, none⟩ = _ := ((Below.refl w6.heap.size w6).alloc (Nat.le_refl _) _).cell (p := ⟨GO, 1, none⟩) (World.block_lt_of_cell? w6 _ f1) |>.trans f1
                have HLS6 := Lib.hid hls6
                have HE6 := Lib.hid e6
                have HF7 := Lib.hid f7
                clear hls6 e6 hb6 HLS f7
                go_upto_region 28 with fail
                generalize w6.alloc (.cells #[.int .i64 la, .int .i64 (dc : Nat), .int .i64 (at_ : Nat), .int .i64 (sz : Nat)] 45) = w7 at HLS6 HE6 HF7 ⊢
                generalize w6.heap.size = G6 at HE6 ⊢
                clear f0 f1
                have f1 := HF7.out
                have x0 := blk_cell HE6.out 0
                have x1 := blk_cell HE6.out 1
                have x2 := blk_cell HE6.out 2
                have x3 := blk_cell HE6.out 3
                obtain ⟨g4, rfl, -, -, hc⟩ := HLS6.out.s.at_ k hk
                rw [hx] at hc
                have y0 : w7.cell? ⟨g4, k * 4, none⟩ = some (.int .i64 la) := hc 0 _ rfl
                have y1 : w7.cell? ⟨g4, k * 4 + 1, none⟩ = some (.int .i64 (dc : Nat)) := hc 1 _ rfl
                have y2 : w7.cell? ⟨g4, k * 4 + 2, none⟩ = some (.int .i64 (at_ : Nat)) := hc 2 _ rfl
                have y3 : w7.cell? ⟨g4, k * 4 + 3, none⟩ = some (.int .i64 (sz : Nat)) := hc 3 _ rfl
                have heq := fun w => eql_sk w ⟨la, dc, at_, sz⟩ ⟨la, dc, at_, sz⟩
                rw [skEq_self] at heq
                simp only at heq
                have hgd := guard_sk
                clear hc hx
                have t1 : decide (k < S.length) = true := decide_eq_true hk
                have i2 : (k : Int) < (S.length : Int) := by omega
                clear hk
                clear HE6 HF7
                go_wp2
                go_quiet (fail)
                go_wp2
                go_roundw
                case rel => exact ⟨i + 1, _, rfl, by go_num, by omega, HLS6.out.drewN _⟩
                case measure => simp [intOf]; omega
            · obtain ⟨sa, sc, rfl⟩ := HLS.out.l.sk.sl
              by_cases hin : ni < 0 ∨ (S.length : Int) ≤ ni
              · by_cases h0 : ni < 0
                · have t0 : decide (0 ≤ ni) = false := decide_eq_false (by omega)
                  have hls6 := HLS.out.step ((Below.refl _ w5).alloc (Nat.le_refl _) (.cells #[] 53))
                  have f7 : (w5.alloc (.cells #[] 53)).cell? ⟨GO, 1, none⟩ = _ := ((Below.refl w5.heap.size w5).alloc (Nat.le_refl _) _).cell (p := ⟨GO, 1, none⟩) (World.block_lt_of_cell? w5 _ f1) |>.trans f1
                  have HLS6 := Lib.hid hls6
                  have HF7 := Lib.hid f7
                  clear hls6 HLS f7
                  go_upto_region 32 with fail
                  generalize w5.alloc (.cells #[] 53) = w6 at HLS6 HF7 ⊢
                  generalize w5.heap.size = G5 at ⊢
                  clear f0 f1
                  have f1 := HF7.out
                  clear HF7
                  have D1 := block_out w6 p _ _ _ _ _ _ S _ HLS6.out.l ni hin
                  go_wp2_with fail
                  with_reducible refine D1.mono ?_
                  rintro e w7 ⟨rfl, rfl⟩
                  clear D1 f1
                  have D2 := same8_any w6 none (some ⟨G5, 0, none⟩) 0 0 0 0 [] ⟨rfl, fun h => by simp at h⟩ ⟨rfl, fun h => by simp at h⟩ (by simp) (fun p hp => by cases hp)
                  go_wp2_with fail
                  with_reducible refine D2.mono ?_
                  rintro e w7 ⟨rfl, d7, rfl⟩
                  clear D2
                  go_wp2
                  go_roundw
                  case rel => exact ⟨i + 1, _, rfl, by go_num, by omega, HLS6.out.drewN d7⟩
                  case measure => simp [intOf]; omega
                · have t0 : decide (0 ≤ ni) = true := decide_eq_true (by omega)
                  have t1 : decide (ni < (S.length : Int)) = false := decide_eq_false (by omega)
                  have hls6 := HLS.out.step ((Below.refl _ w5).alloc (Nat.le_refl _) (.cells #[] 53))
                  have f7 : (w5.alloc (.cells #[] 53)).cell? ⟨GO, 1, none⟩ = _ := ((Below.refl w5.heap.size w5).alloc (Nat.le_refl _) _).cell (p := ⟨GO, 1, none⟩) (World.block_lt_of_cell? w5 _ f1) |>.trans f1
                  have HLS6 := Lib.hid hls6
                  have HF7 := Lib.hid f7
                  clear hls6 HLS f7
                  go_upto_region 32 with fail
                  generalize w5.alloc (.cells #[] 53) = w6 at HLS6 HF7 ⊢
                  generalize w5.heap.size = G5 at ⊢
                  clear f0 f1
                  have f1 := HF7.out
                  clear HF7
                  have D1 := block_out w6 p _ _ _ _ _ _ S _ HLS6.out.l ni hin
                  go_wp2_with fail
                  with_reducible refine D1.mono ?_
                  rintro e w7 ⟨rfl, rfl⟩
                  clear D1 f1
                  have D2 := same8_any w6 none (some ⟨G5, 0, none⟩) 0 0 0 0 [] ⟨rfl, fun h => by simp at h⟩ ⟨rfl, fun h => by simp at h⟩ (by simp) (fun p hp => by cases hp)
                  go_wp2_with fail
                  with_reducible refine D2.mono ?_
                  rintro e w7 ⟨rfl, d7, rfl⟩
                  clear D2
                  go_wp2
                  go_roundw
                  case rel => exact ⟨i + 1, _, rfl, by go_num, by omega, HLS6.out.drewN d7⟩
                  case measure => simp [intOf]; omega
              · obtain ⟨k, rfl⟩ : ∃ k : Nat, ni = k := ⟨ni.toNat, by omega⟩
                have hk : k < S.length := by omega
                clear hin
                have hls6 := HLS.out.step ((Below.refl _ w5).alloc (Nat.le_refl _) (.cells #[] 53))
                have f7 : (w5.alloc (.cells #[] 53)).cell? ⟨GO, 1, none⟩ = _ := ((Below.refl w5.heap.size w5).alloc (Nat.le_refl _) _).cell (p := ⟨GO, 1, none⟩) (World.block_lt_of_cell? w5 _ f1) |>.trans f1
                have HLS6 := Lib.hid hls6
                have HF7 := Lib.hid f7
                clear hls6 HLS f7
                go_upto_region 32 with fail
                generalize w5.alloc (.cells #[] 53) = w6 at HLS6 HF7 ⊢
                generalize w5.heap.size = G5 at ⊢
                clear f0 f1
                have f1 := HF7.out
                clear HF7
                have hq := HQ.out
                have hck : k < (chp ps).length := by have := HQC.out; omega
                obtain ⟨q, hqe⟩ : ∃ q, 16 * k = q := ⟨_, rfl⟩
                have hqlt : q < ps.length := by omega
                have hcg := chp_get k ps hck
                rw [hqe] at hcg
                have D1 := block_any w6 p _ _ _ _ _ _ S (chp ps) _ HLS6.out.l HBLK.out (by omega) k hk hck EA (HS.out.below HLS6.out.b)
                rw [hcg] at D1
                have hrd := HR.out.below HLS6.out.b (Nat.le_refl _)
                obtain ⟨ba, oa, rfl, -⟩ := hrd.2 (by omega)
                obtain ⟨hi, hhi⟩ : ∃ hi, min (q + 16) ps.length = hi := ⟨_, rfl⟩
                have hpart := rdPost_part hrd q hi (by omega) (by omega)
                rw [chunk_eq ps q hi hhi.symm] at hpart
                have hfc := (HF.out.drop q).take 16
                obtain ⟨CH, hCH⟩ : ∃ CH, (ps.drop q).take 16 = CH := ⟨_, rfl⟩
                rw [hCH] at hpart D1 hfc
                obtain ⟨D, hD⟩ : ∃ D, hi - q = D := ⟨_, rfl⟩
                rw [hD] at hpart
                have hmn : min ((q : Int) + 16) (ps.length : Int) = (hi : Int) := by omega
                have a1 : (q : Int) ≤ (hi : Int) := by omega
                have a2 : (hi : Int) ≤ (c : Int) := by omega
                have a3 : q < c := by omega
                have hsd : ((hi : Int) - (q : Int)).toNat = D := by omega
                have s1 : IntKind.i64.wrap (16 * (k : Int)) = (q : Int) := by rw [IntKind.wrap_i64]; omega
                have hDl : D = CH.length := hpart.1
                have hCH16 : CH.length ≤ 16 := by omega
                have t1 : decide (k < S.length) = true := decide_eq_true hk
                have HPART := Lib.hid hpart
                have HFC := Lib.hid hfc
                have HQE := Lib.hid hqe
                have HDL := Lib.hid hDl
                have HD := Lib.hid hD
                clear hck hcg hrd hhi hpart hfc hCH hD hq hk hqe hDl
                go_wp2_with fail
                with_reducible refine D1.mono ?_
                rintro e w7 ⟨A7, N7, C7, vs7, rfl, hrow7, hb7⟩
                clear D1 f1 s1 t1 a1 a2 a3 hsd hmn
                have hls7 := HLS6.out.step hb7
                have D2 := same8_any w7 A7 (some ⟨ba, oa + q * 2, none⟩) N7 D C7 (c - q) CH hrow7.rd (HPART.out.below hb7 (Nat.le_refl _)) (by omega) (fun p hp => by have := (HFC.out p hp).2.2; omega)
                rw [← HD.out] at D2
                have HLS7 := Lib.hid hls7
                clear hls7 hb7 hrow7 HLS6 hCH16
                go_wp2_with fail
                with_reducible refine D2.mono ?_
                rintro e w8 ⟨rfl, d8, rfl⟩
                clear D2
                go_wp2
                go_roundw
                case rel => exact ⟨i + 1, _, rfl, by go_num, by omega, HLS7.out.drewN d8⟩
                case measure => simp [intOf]; omega
          · obtain rfl : i = os.length := by omega
            have i1 : ¬ ((os.length : Int) < (os.length : Int)) := by omega
            have HB9 := Lib.hid hls.b
            clear hls
            go_wp2
            go_ret
            exact ⟨rfl, HB9.out⟩
  · obtain ⟨rfl, hb2⟩ := h2n ok
    obtain ⟨G, hG⟩ : ∃ G, checkV (-1) ps = G := ⟨_, rfl⟩
    have hg0 : G ≠ 0 := fun e => ok (hG.trans e)
    have t0 : ((G : Int) != 0) = true := by simp; omega
    rw [hG]
    have HB2 := Lib.hid (HB1.out.trans (hb2.mono HB1.out.size))
    clear h2 h2n hb2 hG hg0
    go_wp2
    go_ret
    exact ⟨rfl, HB2.out⟩
end Go.Proofs.YthnpbfadblcicaaDoor
